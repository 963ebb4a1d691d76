/-
  NARROWER THAN 'FOR EVERY INPUT', by the rows' own cells (each row's printed sentence says how): LayoutLengths: laid · LayoutArranges: laid · LayoutShortens: laid · LayoutMoves: laid · LayoutPlaces: laid · LayoutReads: laid · LayoutDraws: laid.
  DERIVED. THE GIVEN ROWS OF THIS SEAT. 7 by the template 'for every input the law returns true; each argument reads behind the call as it read before'; 0 by the template 'total and deterministic' (their statements: YtfcljeghfckabaaGreatDoorTotals.lean).
  GIVEN WITH THE SEED: the statements are not yours to turn. If you find one false, say at which input.
  Laid BY PROGRAM, IN A SANDBOX (cutbox-rows.mjs): the forced cells as the released guide's own fill.sh prints them over the translation f968d0fd768898d1… (all of the seat's roots in one cut). By AI agents, Wed Nov 11 2026. No macro, syntax, notation, axiom, sorry.
-/
import Derived.Test.YtfcljeghfckabaaGreatDoorChecked
import GoSem.PinnedTables
import GoSem.Claim
import GoSem.ClaimJoined
import GoSem.ClaimMapViews
import Derived.JoinedTies
import Derived.KernelRfl
namespace Go.Proofs.YtfcljeghfckabaaGreatDoor
/- THE CELL 'sum', in the pinned program and in every row, IS THE sha256 OF THE DUMP (.gsa) THAT YtfcljeghfckabaaGreatDoorProg.lean LOADS. Nothing in Lean hashes anything: it is a label: what it is worth is what the hold of that sum in a sandbox is worth. -/
noncomputable def Tryz.pinned : Pinned := { name := "ytfcljeghfckabaagreatdoor", sum := "f968d0fd768898d115017ef0e84e92971ff20efe4f8674fb16ca7a50fe5e62ce", checked := Tryz.checked }
namespace Rows
def none {H : Type} : Left H := { results := [], args := [] }

/- WHAT THE LISTED PACKAGE-LEVEL VARIABLES READ AS WHEN THE CALL BEGINS. Each datum BY PROGRAM (the guide's laid-datum.mjs) off the statement by which the dump's own 'gosem.cut.vars' lays the variable. In a bare row this is a premise. The card (YtfcljeghfckabaaGreatDoorCards.lean) ties it to the program's text. -/
def laid_unicode_utf8_acceptRanges {H : Type} : DataW H := .agg [.agg [.lit (.int .u8 128), .lit (.int .u8 191)], .agg [.lit (.int .u8 160), .lit (.int .u8 191)], .agg [.lit (.int .u8 128), .lit (.int .u8 159)], .agg [.lit (.int .u8 144), .lit (.int .u8 191)], .agg [.lit (.int .u8 128), .lit (.int .u8 143)], .agg [.lit (.int .u8 0), .lit (.int .u8 0)], .agg [.lit (.int .u8 0), .lit (.int .u8 0)], .agg [.lit (.int .u8 0), .lit (.int .u8 0)], .agg [.lit (.int .u8 0), .lit (.int .u8 0)], .agg [.lit (.int .u8 0), .lit (.int .u8 0)], .agg [.lit (.int .u8 0), .lit (.int .u8 0)], .agg [.lit (.int .u8 0), .lit (.int .u8 0)], .agg [.lit (.int .u8 0), .lit (.int .u8 0)], .agg [.lit (.int .u8 0), .lit (.int .u8 0)], .agg [.lit (.int .u8 0), .lit (.int .u8 0)], .agg [.lit (.int .u8 0), .lit (.int .u8 0)]]
def laid_pneumatic_lexer_ranges {H : Type} : DataW H := .agg [.agg [.lit (.int .u8 65), .lit (.int .u8 90), .lit (.int .u8 1)], .agg [.lit (.int .u8 97), .lit (.int .u8 122), .lit (.int .u8 1)], .agg [.lit (.int .u8 48), .lit (.int .u8 57), .lit (.int .u8 2)], .agg [.lit (.int .u8 95), .lit (.int .u8 95), .lit (.int .u8 3)], .agg [.lit (.int .u8 32), .lit (.int .u8 32), .lit (.int .u8 5)], .agg [.lit (.int .u8 10), .lit (.int .u8 10), .lit (.int .u8 5)]]
/-- One of Go's own tables, pinned by name: the form's constant. -/
def laid_unicode_utf8_first : DataW Unit := Go.Pinned.utf8First
def laid_unicode_White_Space {H : Type} : DataW H := .ptr (.agg [.slice [.agg [.lit (.int .u16 9), .lit (.int .u16 13), .lit (.int .u16 1)], .agg [.lit (.int .u16 32), .lit (.int .u16 133), .lit (.int .u16 101)], .agg [.lit (.int .u16 160), .lit (.int .u16 5760), .lit (.int .u16 5600)], .agg [.lit (.int .u16 8192), .lit (.int .u16 8202), .lit (.int .u16 1)], .agg [.lit (.int .u16 8232), .lit (.int .u16 8233), .lit (.int .u16 1)], .agg [.lit (.int .u16 8239), .lit (.int .u16 8287), .lit (.int .u16 48)], .agg [.lit (.int .u16 12288), .lit (.int .u16 12288), .lit (.int .u16 1)]] [], .nil, .lit (.int .i64 2)])
def laid_strings_asciiSpace {H : Type} : DataW H := .agg [.lit (.int .u8 0), .lit (.int .u8 0), .lit (.int .u8 0), .lit (.int .u8 0), .lit (.int .u8 0), .lit (.int .u8 0), .lit (.int .u8 0), .lit (.int .u8 0), .lit (.int .u8 0), .lit (.int .u8 1), .lit (.int .u8 1), .lit (.int .u8 1), .lit (.int .u8 1), .lit (.int .u8 1), .lit (.int .u8 0), .lit (.int .u8 0), .lit (.int .u8 0), .lit (.int .u8 0), .lit (.int .u8 0), .lit (.int .u8 0), .lit (.int .u8 0), .lit (.int .u8 0), .lit (.int .u8 0), .lit (.int .u8 0), .lit (.int .u8 0), .lit (.int .u8 0), .lit (.int .u8 0), .lit (.int .u8 0), .lit (.int .u8 0), .lit (.int .u8 0), .lit (.int .u8 0), .lit (.int .u8 0), .lit (.int .u8 1), .lit (.int .u8 0), .lit (.int .u8 0), .lit (.int .u8 0), .lit (.int .u8 0), .lit (.int .u8 0), .lit (.int .u8 0), .lit (.int .u8 0), .lit (.int .u8 0), .lit (.int .u8 0), .lit (.int .u8 0), .lit (.int .u8 0), .lit (.int .u8 0), .lit (.int .u8 0), .lit (.int .u8 0), .lit (.int .u8 0), .lit (.int .u8 0), .lit (.int .u8 0), .lit (.int .u8 0), .lit (.int .u8 0), .lit (.int .u8 0), .lit (.int .u8 0), .lit (.int .u8 0), .lit (.int .u8 0), .lit (.int .u8 0), .lit (.int .u8 0), .lit (.int .u8 0), .lit (.int .u8 0), .lit (.int .u8 0), .lit (.int .u8 0), .lit (.int .u8 0), .lit (.int .u8 0), .lit (.int .u8 0), .lit (.int .u8 0), .lit (.int .u8 0), .lit (.int .u8 0), .lit (.int .u8 0), .lit (.int .u8 0), .lit (.int .u8 0), .lit (.int .u8 0), .lit (.int .u8 0), .lit (.int .u8 0), .lit (.int .u8 0), .lit (.int .u8 0), .lit (.int .u8 0), .lit (.int .u8 0), .lit (.int .u8 0), .lit (.int .u8 0), .lit (.int .u8 0), .lit (.int .u8 0), .lit (.int .u8 0), .lit (.int .u8 0), .lit (.int .u8 0), .lit (.int .u8 0), .lit (.int .u8 0), .lit (.int .u8 0), .lit (.int .u8 0), .lit (.int .u8 0), .lit (.int .u8 0), .lit (.int .u8 0), .lit (.int .u8 0), .lit (.int .u8 0), .lit (.int .u8 0), .lit (.int .u8 0), .lit (.int .u8 0), .lit (.int .u8 0), .lit (.int .u8 0), .lit (.int .u8 0), .lit (.int .u8 0), .lit (.int .u8 0), .lit (.int .u8 0), .lit (.int .u8 0), .lit (.int .u8 0), .lit (.int .u8 0), .lit (.int .u8 0), .lit (.int .u8 0), .lit (.int .u8 0), .lit (.int .u8 0), .lit (.int .u8 0), .lit (.int .u8 0), .lit (.int .u8 0), .lit (.int .u8 0), .lit (.int .u8 0), .lit (.int .u8 0), .lit (.int .u8 0), .lit (.int .u8 0), .lit (.int .u8 0), .lit (.int .u8 0), .lit (.int .u8 0), .lit (.int .u8 0), .lit (.int .u8 0), .lit (.int .u8 0), .lit (.int .u8 0), .lit (.int .u8 0), .lit (.int .u8 0), .lit (.int .u8 0), .lit (.int .u8 0), .lit (.int .u8 0), .lit (.int .u8 0), .lit (.int .u8 0), .lit (.int .u8 0), .lit (.int .u8 0), .lit (.int .u8 0), .lit (.int .u8 0), .lit (.int .u8 0), .lit (.int .u8 0), .lit (.int .u8 0), .lit (.int .u8 0), .lit (.int .u8 0), .lit (.int .u8 0), .lit (.int .u8 0), .lit (.int .u8 0), .lit (.int .u8 0), .lit (.int .u8 0), .lit (.int .u8 0), .lit (.int .u8 0), .lit (.int .u8 0), .lit (.int .u8 0), .lit (.int .u8 0), .lit (.int .u8 0), .lit (.int .u8 0), .lit (.int .u8 0), .lit (.int .u8 0), .lit (.int .u8 0), .lit (.int .u8 0), .lit (.int .u8 0), .lit (.int .u8 0), .lit (.int .u8 0), .lit (.int .u8 0), .lit (.int .u8 0), .lit (.int .u8 0), .lit (.int .u8 0), .lit (.int .u8 0), .lit (.int .u8 0), .lit (.int .u8 0), .lit (.int .u8 0), .lit (.int .u8 0), .lit (.int .u8 0), .lit (.int .u8 0), .lit (.int .u8 0), .lit (.int .u8 0), .lit (.int .u8 0), .lit (.int .u8 0), .lit (.int .u8 0), .lit (.int .u8 0), .lit (.int .u8 0), .lit (.int .u8 0), .lit (.int .u8 0), .lit (.int .u8 0), .lit (.int .u8 0), .lit (.int .u8 0), .lit (.int .u8 0), .lit (.int .u8 0), .lit (.int .u8 0), .lit (.int .u8 0), .lit (.int .u8 0), .lit (.int .u8 0), .lit (.int .u8 0), .lit (.int .u8 0), .lit (.int .u8 0), .lit (.int .u8 0), .lit (.int .u8 0), .lit (.int .u8 0), .lit (.int .u8 0), .lit (.int .u8 0), .lit (.int .u8 0), .lit (.int .u8 0), .lit (.int .u8 0), .lit (.int .u8 0), .lit (.int .u8 0), .lit (.int .u8 0), .lit (.int .u8 0), .lit (.int .u8 0), .lit (.int .u8 0), .lit (.int .u8 0), .lit (.int .u8 0), .lit (.int .u8 0), .lit (.int .u8 0), .lit (.int .u8 0), .lit (.int .u8 0), .lit (.int .u8 0), .lit (.int .u8 0), .lit (.int .u8 0), .lit (.int .u8 0), .lit (.int .u8 0), .lit (.int .u8 0), .lit (.int .u8 0), .lit (.int .u8 0), .lit (.int .u8 0), .lit (.int .u8 0), .lit (.int .u8 0), .lit (.int .u8 0), .lit (.int .u8 0), .lit (.int .u8 0), .lit (.int .u8 0), .lit (.int .u8 0), .lit (.int .u8 0), .lit (.int .u8 0), .lit (.int .u8 0), .lit (.int .u8 0), .lit (.int .u8 0), .lit (.int .u8 0), .lit (.int .u8 0), .lit (.int .u8 0), .lit (.int .u8 0), .lit (.int .u8 0), .lit (.int .u8 0), .lit (.int .u8 0), .lit (.int .u8 0), .lit (.int .u8 0), .lit (.int .u8 0), .lit (.int .u8 0), .lit (.int .u8 0), .lit (.int .u8 0), .lit (.int .u8 0), .lit (.int .u8 0), .lit (.int .u8 0), .lit (.int .u8 0), .lit (.int .u8 0), .lit (.int .u8 0), .lit (.int .u8 0), .lit (.int .u8 0), .lit (.int .u8 0), .lit (.int .u8 0)]

/-- 'pneumaticlaw25.LayoutLengths': WHATEVER THE INPUT: true; the input reads as it did. -/
def layoutLengthsSpec : ChangeSpec := { name := "layoutLengths", fn := fun _ => fun
  | [d1, d2] => { results := [.lit (.bool true)], args := [d1, d2] }
  | _ => none }
def layoutLengthsRow : OpenClaim := { program := "ytfcljeghfckabaagreatdoor", sum := "f968d0fd768898d115017ef0e84e92971ff20efe4f8674fb16ca7a50fe5e62ce", func := "pneumatic/pneumaticlaw25.LayoutLengths", spec := "layoutLengths", inPlace := ["internal/bytealg.IndexByteString", "internal/bytealg.abigen_runtime_cmpstring", "internal/abi.NoEscape", "internal/bytealg.MakeNoZero", "internal/bytealg.IndexString"], unfollowed := true, recurses := true, named := ["pneumatic/lexer.ranges", "unicode/utf8.first", "unicode/utf8.acceptRanges", "internal/bytealg.MaxLen"], plainKeys := false, apart := false, laid := [("unicode/utf8.acceptRanges", laid_unicode_utf8_acceptRanges), ("pneumatic/lexer.ranges", laid_pneumatic_lexer_ranges), ("unicode/utf8.first", laid_unicode_utf8_first)] }
def LayoutLengthsSaid : Prop := layoutLengthsRow.holds Tryz.pinned (OpenSpec.ofChange layoutLengthsSpec)

/-- ITS FALSE NEIGHBOUR: 'it returns false'. Refute it at one input. -/
def layoutLengthsWrong : ChangeSpec := { name := "layoutLengths", fn := fun _ => fun
  | [d1, d2] => { results := [.lit (.bool false)], args := [d1, d2] }
  | _ => none }
def LayoutLengthsWrongFalsely : Prop := layoutLengthsRow.holds Tryz.pinned (OpenSpec.ofChange layoutLengthsWrong)

/-- 'pneumaticlaw25.LayoutArranges': WHATEVER THE INPUT: true; the input reads as it did. -/
def layoutArrangesSpec : ChangeSpec := { name := "layoutArranges", fn := fun _ => fun
  | [d1, d2, d3] => { results := [.lit (.bool true)], args := [d1, d2, d3] }
  | _ => none }
def layoutArrangesRow : OpenClaim := { program := "ytfcljeghfckabaagreatdoor", sum := "f968d0fd768898d115017ef0e84e92971ff20efe4f8674fb16ca7a50fe5e62ce", func := "pneumatic/pneumaticlaw25.LayoutArranges", spec := "layoutArranges", inPlace := ["internal/bytealg.IndexByteString", "internal/bytealg.abigen_runtime_cmpstring", "internal/abi.NoEscape", "internal/bytealg.MakeNoZero", "internal/bytealg.IndexString"], unfollowed := true, recurses := true, named := ["pneumatic/lexer.ranges", "unicode/utf8.first", "unicode/utf8.acceptRanges", "internal/bytealg.MaxLen"], plainKeys := false, apart := false, laid := [("unicode/utf8.acceptRanges", laid_unicode_utf8_acceptRanges), ("pneumatic/lexer.ranges", laid_pneumatic_lexer_ranges), ("unicode/utf8.first", laid_unicode_utf8_first)] }
def LayoutArrangesSaid : Prop := layoutArrangesRow.holds Tryz.pinned (OpenSpec.ofChange layoutArrangesSpec)

/-- ITS FALSE NEIGHBOUR: 'it returns false'. Refute it at one input. -/
def layoutArrangesWrong : ChangeSpec := { name := "layoutArranges", fn := fun _ => fun
  | [d1, d2, d3] => { results := [.lit (.bool false)], args := [d1, d2, d3] }
  | _ => none }
def LayoutArrangesWrongFalsely : Prop := layoutArrangesRow.holds Tryz.pinned (OpenSpec.ofChange layoutArrangesWrong)

/-- 'pneumaticlaw25.LayoutShortens': WHATEVER THE INPUT: true; the input reads as it did. -/
def layoutShortensSpec : ChangeSpec := { name := "layoutShortens", fn := fun _ => fun
  | [d1, d2, d3] => { results := [.lit (.bool true)], args := [d1, d2, d3] }
  | _ => none }
def layoutShortensRow : OpenClaim := { program := "ytfcljeghfckabaagreatdoor", sum := "f968d0fd768898d115017ef0e84e92971ff20efe4f8674fb16ca7a50fe5e62ce", func := "pneumatic/pneumaticlaw25.LayoutShortens", spec := "layoutShortens", inPlace := ["internal/bytealg.IndexByteString", "internal/bytealg.abigen_runtime_cmpstring", "internal/abi.NoEscape", "internal/bytealg.MakeNoZero", "internal/bytealg.IndexString"], unfollowed := true, recurses := true, named := ["pneumatic/lexer.ranges", "unicode/utf8.first", "unicode/utf8.acceptRanges", "internal/bytealg.MaxLen"], plainKeys := false, apart := false, laid := [("unicode/utf8.acceptRanges", laid_unicode_utf8_acceptRanges), ("pneumatic/lexer.ranges", laid_pneumatic_lexer_ranges), ("unicode/utf8.first", laid_unicode_utf8_first)] }
def LayoutShortensSaid : Prop := layoutShortensRow.holds Tryz.pinned (OpenSpec.ofChange layoutShortensSpec)

/-- ITS FALSE NEIGHBOUR: 'it returns false'. Refute it at one input. -/
def layoutShortensWrong : ChangeSpec := { name := "layoutShortens", fn := fun _ => fun
  | [d1, d2, d3] => { results := [.lit (.bool false)], args := [d1, d2, d3] }
  | _ => none }
def LayoutShortensWrongFalsely : Prop := layoutShortensRow.holds Tryz.pinned (OpenSpec.ofChange layoutShortensWrong)

/-- 'pneumaticlaw25.LayoutMoves': WHATEVER THE INPUT: true; the input reads as it did. -/
def layoutMovesSpec : ChangeSpec := { name := "layoutMoves", fn := fun _ => fun
  | [d1, d2, d3] => { results := [.lit (.bool true)], args := [d1, d2, d3] }
  | _ => none }
def layoutMovesRow : OpenClaim := { program := "ytfcljeghfckabaagreatdoor", sum := "f968d0fd768898d115017ef0e84e92971ff20efe4f8674fb16ca7a50fe5e62ce", func := "pneumatic/pneumaticlaw25.LayoutMoves", spec := "layoutMoves", inPlace := ["internal/bytealg.IndexByteString", "internal/bytealg.abigen_runtime_cmpstring", "internal/abi.NoEscape", "internal/bytealg.MakeNoZero", "internal/bytealg.IndexString"], unfollowed := true, recurses := true, named := ["pneumatic/lexer.ranges", "unicode/utf8.first", "unicode/utf8.acceptRanges", "internal/bytealg.MaxLen"], plainKeys := false, apart := false, laid := [("unicode/utf8.acceptRanges", laid_unicode_utf8_acceptRanges), ("pneumatic/lexer.ranges", laid_pneumatic_lexer_ranges), ("unicode/utf8.first", laid_unicode_utf8_first)] }
def LayoutMovesSaid : Prop := layoutMovesRow.holds Tryz.pinned (OpenSpec.ofChange layoutMovesSpec)

/-- ITS FALSE NEIGHBOUR: 'it returns false'. Refute it at one input. -/
def layoutMovesWrong : ChangeSpec := { name := "layoutMoves", fn := fun _ => fun
  | [d1, d2, d3] => { results := [.lit (.bool false)], args := [d1, d2, d3] }
  | _ => none }
def LayoutMovesWrongFalsely : Prop := layoutMovesRow.holds Tryz.pinned (OpenSpec.ofChange layoutMovesWrong)

/-- 'pneumaticlaw25.LayoutPlaces': WHATEVER THE INPUT: true; the input reads as it did. -/
def layoutPlacesSpec : ChangeSpec := { name := "layoutPlaces", fn := fun _ => fun
  | [d1, d2, d3] => { results := [.lit (.bool true)], args := [d1, d2, d3] }
  | _ => none }
def layoutPlacesRow : OpenClaim := { program := "ytfcljeghfckabaagreatdoor", sum := "f968d0fd768898d115017ef0e84e92971ff20efe4f8674fb16ca7a50fe5e62ce", func := "pneumatic/pneumaticlaw25.LayoutPlaces", spec := "layoutPlaces", inPlace := ["internal/bytealg.IndexByteString", "internal/bytealg.abigen_runtime_cmpstring", "internal/abi.NoEscape", "internal/bytealg.MakeNoZero", "internal/bytealg.IndexString"], unfollowed := true, recurses := true, named := ["pneumatic/lexer.ranges", "unicode/utf8.first", "unicode/utf8.acceptRanges", "internal/bytealg.MaxLen"], plainKeys := false, apart := false, laid := [("unicode/utf8.acceptRanges", laid_unicode_utf8_acceptRanges), ("pneumatic/lexer.ranges", laid_pneumatic_lexer_ranges), ("unicode/utf8.first", laid_unicode_utf8_first)] }
def LayoutPlacesSaid : Prop := layoutPlacesRow.holds Tryz.pinned (OpenSpec.ofChange layoutPlacesSpec)

/-- ITS FALSE NEIGHBOUR: 'it returns false'. Refute it at one input. -/
def layoutPlacesWrong : ChangeSpec := { name := "layoutPlaces", fn := fun _ => fun
  | [d1, d2, d3] => { results := [.lit (.bool false)], args := [d1, d2, d3] }
  | _ => none }
def LayoutPlacesWrongFalsely : Prop := layoutPlacesRow.holds Tryz.pinned (OpenSpec.ofChange layoutPlacesWrong)

/-- 'pneumaticlaw25.LayoutReads': WHATEVER THE INPUT: true; the input reads as it did. -/
def layoutReadsSpec : ChangeSpec := { name := "layoutReads", fn := fun _ => fun
  | [d1, d2] => { results := [.lit (.bool true)], args := [d1, d2] }
  | _ => none }
def layoutReadsRow : OpenClaim := { program := "ytfcljeghfckabaagreatdoor", sum := "f968d0fd768898d115017ef0e84e92971ff20efe4f8674fb16ca7a50fe5e62ce", func := "pneumatic/pneumaticlaw25.LayoutReads", spec := "layoutReads", inPlace := ["internal/bytealg.IndexByteString", "internal/bytealg.abigen_runtime_cmpstring", "internal/abi.NoEscape", "internal/bytealg.MakeNoZero", "internal/bytealg.IndexString"], unfollowed := true, recurses := true, named := ["pneumatic/lexer.ranges", "unicode/utf8.first", "unicode/utf8.acceptRanges", "strings.asciiSpace", "unicode.White_Space", "internal/bytealg.MaxLen"], plainKeys := false, apart := false, laid := [("unicode/utf8.acceptRanges", laid_unicode_utf8_acceptRanges), ("unicode.White_Space", laid_unicode_White_Space), ("strings.asciiSpace", laid_strings_asciiSpace), ("pneumatic/lexer.ranges", laid_pneumatic_lexer_ranges), ("unicode/utf8.first", laid_unicode_utf8_first)] }
def LayoutReadsSaid : Prop := layoutReadsRow.holds Tryz.pinned (OpenSpec.ofChange layoutReadsSpec)

/-- ITS FALSE NEIGHBOUR: 'it returns false'. Refute it at one input. -/
def layoutReadsWrong : ChangeSpec := { name := "layoutReads", fn := fun _ => fun
  | [d1, d2] => { results := [.lit (.bool false)], args := [d1, d2] }
  | _ => none }
def LayoutReadsWrongFalsely : Prop := layoutReadsRow.holds Tryz.pinned (OpenSpec.ofChange layoutReadsWrong)

/-- 'pneumaticlaw25.LayoutDraws': WHATEVER THE INPUT: true; the input reads as it did. -/
def layoutDrawsSpec : ChangeSpec := { name := "layoutDraws", fn := fun _ => fun
  | [d1, d2, d3] => { results := [.lit (.bool true)], args := [d1, d2, d3] }
  | _ => none }
def layoutDrawsRow : OpenClaim := { program := "ytfcljeghfckabaagreatdoor", sum := "f968d0fd768898d115017ef0e84e92971ff20efe4f8674fb16ca7a50fe5e62ce", func := "pneumatic/pneumaticlaw25.LayoutDraws", spec := "layoutDraws", inPlace := ["internal/bytealg.IndexByteString", "internal/bytealg.abigen_runtime_cmpstring", "internal/abi.NoEscape", "internal/bytealg.MakeNoZero", "internal/bytealg.IndexString"], unfollowed := true, recurses := true, named := ["pneumatic/lexer.ranges", "unicode/utf8.first", "unicode/utf8.acceptRanges", "strings.asciiSpace", "unicode.White_Space", "internal/bytealg.MaxLen"], plainKeys := false, apart := false, laid := [("unicode/utf8.acceptRanges", laid_unicode_utf8_acceptRanges), ("unicode.White_Space", laid_unicode_White_Space), ("strings.asciiSpace", laid_strings_asciiSpace), ("pneumatic/lexer.ranges", laid_pneumatic_lexer_ranges), ("unicode/utf8.first", laid_unicode_utf8_first)] }
def LayoutDrawsSaid : Prop := layoutDrawsRow.holds Tryz.pinned (OpenSpec.ofChange layoutDrawsSpec)

/-- ITS FALSE NEIGHBOUR: 'it returns false'. Refute it at one input. -/
def layoutDrawsWrong : ChangeSpec := { name := "layoutDraws", fn := fun _ => fun
  | [d1, d2, d3] => { results := [.lit (.bool false)], args := [d1, d2, d3] }
  | _ => none }
def LayoutDrawsWrongFalsely : Prop := layoutDrawsRow.holds Tryz.pinned (OpenSpec.ofChange layoutDrawsWrong)

/- THE SECOND FORM. 'bulk': how many values and letters a reading holds, each counted each time it is reached (what is shared counts as often as it is met; a slice's spare places count too). A statement '..UptoSaid' is the law's where the arguments, and the package variables that the reading takes, are together of bulk at most 1048576: NARROWER than '..Said'. Prove '..Said' where nothing that the law and all that it calls make is longer than what came in: it says more and counts as full. Else prove '..UptoSaid'. A law counts once. -/
mutual
def uptoBulk {H : Type} : DataW H → Nat
  | .lit (.string bytes) => bytes.length + 1
  | .lit _ => 1
  | .nil => 1
  | .ptr d => uptoBulk d + 1
  | .slice elems spare => uptoBulkAll elems + uptoBulkAll spare + 1
  | .agg parts => uptoBulkAll parts + 1
  | .iface _ d => uptoBulk d + 1
  | .map entries => uptoBulkEntries entries + 1
  | .held _ => 1
def uptoBulkAll {H : Type} : List (DataW H) → Nat
  | [] => 0
  | d :: r => uptoBulk d + uptoBulkAll r
def uptoBulkEntries {H : Type} : List (Lit × DataW H) → Nat
  | [] => 0
  | x :: r => uptoBulkEntry x + uptoBulkEntries r
def uptoBulkEntry {H : Type} : Lit × DataW H → Nat
  | (.string bytes, d) => bytes.length + uptoBulk d + 1
  | (_, d) => uptoBulk d + 1
 end
def uptoSmall : (H : Type) → List (DataW H) → Bool := fun _ ds => decide (uptoBulkAll ds ≤ 1048576)
def OpenSpec.upto (s : _root_.Go.ChangeSpec) : _root_.Go.OpenSpec := { _root_.Go.OpenSpec.ofChange s with cond := some uptoSmall }

/-- 'pneumaticlaw25.LayoutLengths', WHERE WHAT IT READS IS OF BULK AT MOST 1048576: true; the input reads as it did. -/
def layoutLengthsUptoRow : OpenClaim := { program := "ytfcljeghfckabaagreatdoor", sum := "f968d0fd768898d115017ef0e84e92971ff20efe4f8674fb16ca7a50fe5e62ce", func := "pneumatic/pneumaticlaw25.LayoutLengths", spec := "layoutLengths", inPlace := ["internal/bytealg.IndexByteString", "internal/bytealg.abigen_runtime_cmpstring", "internal/abi.NoEscape", "internal/bytealg.MakeNoZero", "internal/bytealg.IndexString"], unfollowed := true, recurses := true, named := ["pneumatic/lexer.ranges", "unicode/utf8.first", "unicode/utf8.acceptRanges", "internal/bytealg.MaxLen"], plainKeys := false, apart := false, laid := [("unicode/utf8.acceptRanges", laid_unicode_utf8_acceptRanges), ("pneumatic/lexer.ranges", laid_pneumatic_lexer_ranges), ("unicode/utf8.first", laid_unicode_utf8_first)], narrowed := true }
def LayoutLengthsUptoSaid : Prop := layoutLengthsUptoRow.holds Tryz.pinned (OpenSpec.upto layoutLengthsSpec)

/-- 'pneumaticlaw25.LayoutArranges', WHERE WHAT IT READS IS OF BULK AT MOST 1048576: true; the input reads as it did. -/
def layoutArrangesUptoRow : OpenClaim := { program := "ytfcljeghfckabaagreatdoor", sum := "f968d0fd768898d115017ef0e84e92971ff20efe4f8674fb16ca7a50fe5e62ce", func := "pneumatic/pneumaticlaw25.LayoutArranges", spec := "layoutArranges", inPlace := ["internal/bytealg.IndexByteString", "internal/bytealg.abigen_runtime_cmpstring", "internal/abi.NoEscape", "internal/bytealg.MakeNoZero", "internal/bytealg.IndexString"], unfollowed := true, recurses := true, named := ["pneumatic/lexer.ranges", "unicode/utf8.first", "unicode/utf8.acceptRanges", "internal/bytealg.MaxLen"], plainKeys := false, apart := false, laid := [("unicode/utf8.acceptRanges", laid_unicode_utf8_acceptRanges), ("pneumatic/lexer.ranges", laid_pneumatic_lexer_ranges), ("unicode/utf8.first", laid_unicode_utf8_first)], narrowed := true }
def LayoutArrangesUptoSaid : Prop := layoutArrangesUptoRow.holds Tryz.pinned (OpenSpec.upto layoutArrangesSpec)

/-- 'pneumaticlaw25.LayoutShortens', WHERE WHAT IT READS IS OF BULK AT MOST 1048576: true; the input reads as it did. -/
def layoutShortensUptoRow : OpenClaim := { program := "ytfcljeghfckabaagreatdoor", sum := "f968d0fd768898d115017ef0e84e92971ff20efe4f8674fb16ca7a50fe5e62ce", func := "pneumatic/pneumaticlaw25.LayoutShortens", spec := "layoutShortens", inPlace := ["internal/bytealg.IndexByteString", "internal/bytealg.abigen_runtime_cmpstring", "internal/abi.NoEscape", "internal/bytealg.MakeNoZero", "internal/bytealg.IndexString"], unfollowed := true, recurses := true, named := ["pneumatic/lexer.ranges", "unicode/utf8.first", "unicode/utf8.acceptRanges", "internal/bytealg.MaxLen"], plainKeys := false, apart := false, laid := [("unicode/utf8.acceptRanges", laid_unicode_utf8_acceptRanges), ("pneumatic/lexer.ranges", laid_pneumatic_lexer_ranges), ("unicode/utf8.first", laid_unicode_utf8_first)], narrowed := true }
def LayoutShortensUptoSaid : Prop := layoutShortensUptoRow.holds Tryz.pinned (OpenSpec.upto layoutShortensSpec)

/-- 'pneumaticlaw25.LayoutMoves', WHERE WHAT IT READS IS OF BULK AT MOST 1048576: true; the input reads as it did. -/
def layoutMovesUptoRow : OpenClaim := { program := "ytfcljeghfckabaagreatdoor", sum := "f968d0fd768898d115017ef0e84e92971ff20efe4f8674fb16ca7a50fe5e62ce", func := "pneumatic/pneumaticlaw25.LayoutMoves", spec := "layoutMoves", inPlace := ["internal/bytealg.IndexByteString", "internal/bytealg.abigen_runtime_cmpstring", "internal/abi.NoEscape", "internal/bytealg.MakeNoZero", "internal/bytealg.IndexString"], unfollowed := true, recurses := true, named := ["pneumatic/lexer.ranges", "unicode/utf8.first", "unicode/utf8.acceptRanges", "internal/bytealg.MaxLen"], plainKeys := false, apart := false, laid := [("unicode/utf8.acceptRanges", laid_unicode_utf8_acceptRanges), ("pneumatic/lexer.ranges", laid_pneumatic_lexer_ranges), ("unicode/utf8.first", laid_unicode_utf8_first)], narrowed := true }
def LayoutMovesUptoSaid : Prop := layoutMovesUptoRow.holds Tryz.pinned (OpenSpec.upto layoutMovesSpec)

/-- 'pneumaticlaw25.LayoutPlaces', WHERE WHAT IT READS IS OF BULK AT MOST 1048576: true; the input reads as it did. -/
def layoutPlacesUptoRow : OpenClaim := { program := "ytfcljeghfckabaagreatdoor", sum := "f968d0fd768898d115017ef0e84e92971ff20efe4f8674fb16ca7a50fe5e62ce", func := "pneumatic/pneumaticlaw25.LayoutPlaces", spec := "layoutPlaces", inPlace := ["internal/bytealg.IndexByteString", "internal/bytealg.abigen_runtime_cmpstring", "internal/abi.NoEscape", "internal/bytealg.MakeNoZero", "internal/bytealg.IndexString"], unfollowed := true, recurses := true, named := ["pneumatic/lexer.ranges", "unicode/utf8.first", "unicode/utf8.acceptRanges", "internal/bytealg.MaxLen"], plainKeys := false, apart := false, laid := [("unicode/utf8.acceptRanges", laid_unicode_utf8_acceptRanges), ("pneumatic/lexer.ranges", laid_pneumatic_lexer_ranges), ("unicode/utf8.first", laid_unicode_utf8_first)], narrowed := true }
def LayoutPlacesUptoSaid : Prop := layoutPlacesUptoRow.holds Tryz.pinned (OpenSpec.upto layoutPlacesSpec)

/-- 'pneumaticlaw25.LayoutReads', WHERE WHAT IT READS IS OF BULK AT MOST 1048576: true; the input reads as it did. -/
def layoutReadsUptoRow : OpenClaim := { program := "ytfcljeghfckabaagreatdoor", sum := "f968d0fd768898d115017ef0e84e92971ff20efe4f8674fb16ca7a50fe5e62ce", func := "pneumatic/pneumaticlaw25.LayoutReads", spec := "layoutReads", inPlace := ["internal/bytealg.IndexByteString", "internal/bytealg.abigen_runtime_cmpstring", "internal/abi.NoEscape", "internal/bytealg.MakeNoZero", "internal/bytealg.IndexString"], unfollowed := true, recurses := true, named := ["pneumatic/lexer.ranges", "unicode/utf8.first", "unicode/utf8.acceptRanges", "strings.asciiSpace", "unicode.White_Space", "internal/bytealg.MaxLen"], plainKeys := false, apart := false, laid := [("unicode/utf8.acceptRanges", laid_unicode_utf8_acceptRanges), ("unicode.White_Space", laid_unicode_White_Space), ("strings.asciiSpace", laid_strings_asciiSpace), ("pneumatic/lexer.ranges", laid_pneumatic_lexer_ranges), ("unicode/utf8.first", laid_unicode_utf8_first)], narrowed := true }
def LayoutReadsUptoSaid : Prop := layoutReadsUptoRow.holds Tryz.pinned (OpenSpec.upto layoutReadsSpec)

/-- 'pneumaticlaw25.LayoutDraws', WHERE WHAT IT READS IS OF BULK AT MOST 1048576: true; the input reads as it did. -/
def layoutDrawsUptoRow : OpenClaim := { program := "ytfcljeghfckabaagreatdoor", sum := "f968d0fd768898d115017ef0e84e92971ff20efe4f8674fb16ca7a50fe5e62ce", func := "pneumatic/pneumaticlaw25.LayoutDraws", spec := "layoutDraws", inPlace := ["internal/bytealg.IndexByteString", "internal/bytealg.abigen_runtime_cmpstring", "internal/abi.NoEscape", "internal/bytealg.MakeNoZero", "internal/bytealg.IndexString"], unfollowed := true, recurses := true, named := ["pneumatic/lexer.ranges", "unicode/utf8.first", "unicode/utf8.acceptRanges", "strings.asciiSpace", "unicode.White_Space", "internal/bytealg.MaxLen"], plainKeys := false, apart := false, laid := [("unicode/utf8.acceptRanges", laid_unicode_utf8_acceptRanges), ("unicode.White_Space", laid_unicode_White_Space), ("strings.asciiSpace", laid_strings_asciiSpace), ("pneumatic/lexer.ranges", laid_pneumatic_lexer_ranges), ("unicode/utf8.first", laid_unicode_utf8_first)], narrowed := true }
def LayoutDrawsUptoSaid : Prop := layoutDrawsUptoRow.holds Tryz.pinned (OpenSpec.upto layoutDrawsSpec)

end Rows
end Go.Proofs.YtfcljeghfckabaaGreatDoor
