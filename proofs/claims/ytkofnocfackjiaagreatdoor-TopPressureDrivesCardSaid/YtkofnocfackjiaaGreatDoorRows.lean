/-
  NARROWER THAN 'FOR EVERY INPUT', by the rows' own cells (each row's printed sentence says how): LabelParses: laid · LabelNames: laid · LabelFinds: laid · LabelOrders: laid · LabelDiffers: laid · LabelFormats: laid · LabelBelongs: laid · TopPressureDrives: laid.
  DERIVED. THE GIVEN ROWS OF THIS SEAT. 8 by the template 'for every input the law returns true; each argument reads behind the call as it read before'; 0 by the template 'total and deterministic' (their statements: YtkofnocfackjiaaGreatDoorTotals.lean).
  GIVEN WITH THE SEED: the statements are not yours to turn. If you find one false, say at which input.
  Laid BY PROGRAM, IN A SANDBOX (cutbox-rows.mjs): the forced cells as the released guide's own fill.sh prints them over the translation c712158b8970fb1b… (all of the seat's roots in one cut). By AI agents, Wed Nov 11 2026. No macro, syntax, notation, axiom, sorry.
-/
import Derived.Test.YtkofnocfackjiaaGreatDoorChecked
import GoSem.Claim
import GoSem.ClaimJoined
import GoSem.ClaimMapViews
import Derived.JoinedTies
import Derived.KernelRfl
namespace Go.Proofs.YtkofnocfackjiaaGreatDoor
/- THE CELL 'sum', in the pinned program and in every row, IS THE sha256 OF THE DUMP (.gsa) THAT YtkofnocfackjiaaGreatDoorProg.lean LOADS. Nothing in Lean hashes anything: it is a label: what it is worth is what the hold of that sum in a sandbox is worth. -/
noncomputable def Tryz.pinned : Pinned := { name := "ytkofnocfackjiaagreatdoor", sum := "c712158b8970fb1bcc0fb914bb5f76bdd8f14bf14adcf1fe515fd1d7c517b286", checked := Tryz.checked }
namespace Rows
def none {H : Type} : Left H := { results := [], args := [] }

/- WHAT THE LISTED PACKAGE-LEVEL VARIABLES READ AS WHEN THE CALL BEGINS. Each datum BY PROGRAM (the guide's laid-datum.mjs) off the statement by which the dump's own 'gosem.cut.vars' lays the variable. In a bare row this is a premise. The card (YtkofnocfackjiaaGreatDoorCards.lean) ties it to the program's text. -/
def laid_math_bits_deBruijn32tab {H : Type} : DataW H := .agg [.lit (.int .u8 0), .lit (.int .u8 1), .lit (.int .u8 28), .lit (.int .u8 2), .lit (.int .u8 29), .lit (.int .u8 14), .lit (.int .u8 24), .lit (.int .u8 3), .lit (.int .u8 30), .lit (.int .u8 22), .lit (.int .u8 20), .lit (.int .u8 15), .lit (.int .u8 25), .lit (.int .u8 17), .lit (.int .u8 4), .lit (.int .u8 8), .lit (.int .u8 31), .lit (.int .u8 27), .lit (.int .u8 13), .lit (.int .u8 23), .lit (.int .u8 21), .lit (.int .u8 19), .lit (.int .u8 16), .lit (.int .u8 7), .lit (.int .u8 26), .lit (.int .u8 12), .lit (.int .u8 18), .lit (.int .u8 6), .lit (.int .u8 11), .lit (.int .u8 5), .lit (.int .u8 10), .lit (.int .u8 9)]
def laid_math_bits_deBruijn64tab {H : Type} : DataW H := .agg [.lit (.int .u8 0), .lit (.int .u8 1), .lit (.int .u8 56), .lit (.int .u8 2), .lit (.int .u8 57), .lit (.int .u8 49), .lit (.int .u8 28), .lit (.int .u8 3), .lit (.int .u8 61), .lit (.int .u8 58), .lit (.int .u8 42), .lit (.int .u8 50), .lit (.int .u8 38), .lit (.int .u8 29), .lit (.int .u8 17), .lit (.int .u8 4), .lit (.int .u8 62), .lit (.int .u8 47), .lit (.int .u8 59), .lit (.int .u8 36), .lit (.int .u8 45), .lit (.int .u8 43), .lit (.int .u8 51), .lit (.int .u8 22), .lit (.int .u8 53), .lit (.int .u8 39), .lit (.int .u8 33), .lit (.int .u8 30), .lit (.int .u8 24), .lit (.int .u8 18), .lit (.int .u8 12), .lit (.int .u8 5), .lit (.int .u8 63), .lit (.int .u8 55), .lit (.int .u8 48), .lit (.int .u8 27), .lit (.int .u8 60), .lit (.int .u8 41), .lit (.int .u8 37), .lit (.int .u8 16), .lit (.int .u8 46), .lit (.int .u8 35), .lit (.int .u8 44), .lit (.int .u8 21), .lit (.int .u8 52), .lit (.int .u8 32), .lit (.int .u8 23), .lit (.int .u8 11), .lit (.int .u8 54), .lit (.int .u8 26), .lit (.int .u8 40), .lit (.int .u8 15), .lit (.int .u8 34), .lit (.int .u8 20), .lit (.int .u8 31), .lit (.int .u8 10), .lit (.int .u8 25), .lit (.int .u8 14), .lit (.int .u8 19), .lit (.int .u8 9), .lit (.int .u8 13), .lit (.int .u8 8), .lit (.int .u8 7), .lit (.int .u8 6)]
def laid_internal_strconv_uint64pow10 {H : Type} : DataW H := .agg [.lit (.int .u64 1), .lit (.int .u64 10), .lit (.int .u64 100), .lit (.int .u64 1000), .lit (.int .u64 10000), .lit (.int .u64 100000), .lit (.int .u64 1000000), .lit (.int .u64 10000000), .lit (.int .u64 100000000), .lit (.int .u64 1000000000), .lit (.int .u64 10000000000), .lit (.int .u64 100000000000), .lit (.int .u64 1000000000000), .lit (.int .u64 10000000000000), .lit (.int .u64 100000000000000), .lit (.int .u64 1000000000000000), .lit (.int .u64 10000000000000000), .lit (.int .u64 100000000000000000), .lit (.int .u64 1000000000000000000), .lit (.int .u64 10000000000000000000)]
def laid_strconv_ErrRange {H : Type} : DataW H := .iface "*errors.errorString" (.ptr (.agg [.lit (.string [118, 97, 108, 117, 101, 32, 111, 117, 116, 32, 111, 102, 32, 114, 97, 110, 103, 101])]))
def laid_strconv_ErrSyntax {H : Type} : DataW H := .iface "*errors.errorString" (.ptr (.agg [.lit (.string [105, 110, 118, 97, 108, 105, 100, 32, 115, 121, 110, 116, 97, 120])]))
def laid_pneumatic_lexer_ranges {H : Type} : DataW H := .agg [.agg [.lit (.int .u8 65), .lit (.int .u8 90), .lit (.int .u8 1)], .agg [.lit (.int .u8 97), .lit (.int .u8 122), .lit (.int .u8 1)], .agg [.lit (.int .u8 48), .lit (.int .u8 57), .lit (.int .u8 2)], .agg [.lit (.int .u8 95), .lit (.int .u8 95), .lit (.int .u8 3)], .agg [.lit (.int .u8 32), .lit (.int .u8 32), .lit (.int .u8 5)], .agg [.lit (.int .u8 10), .lit (.int .u8 10), .lit (.int .u8 5)]]

/-- 'pneumaticlaw26.LabelParses': WHATEVER THE INPUT: true; the input reads as it did. -/
def labelParsesSpec : ChangeSpec := { name := "labelParses", fn := fun _ => fun
  | [d] => { results := [.lit (.bool true)], args := [d] }
  | _ => none }
def labelParsesRow : OpenClaim := { program := "ytkofnocfackjiaagreatdoor", sum := "c712158b8970fb1bcc0fb914bb5f76bdd8f14bf14adcf1fe515fd1d7c517b286", func := "pneumatic/pneumaticlaw26.LabelParses", spec := "labelParses", inPlace := ["internal/bytealg.IndexByteString", "internal/bytealg.abigen_runtime_cmpstring", "internal/bytealg.IndexString"], unfollowed := true, recurses := true, named := ["pneumatic/lexer.ranges", "internal/strconv.uint64pow10", "math/bits.deBruijn32tab", "math/bits.deBruijn64tab", "strconv.ErrSyntax", "strconv.ErrRange", "internal/bytealg.MaxLen"], plainKeys := false, apart := false, laid := [("math/bits.deBruijn32tab", laid_math_bits_deBruijn32tab), ("math/bits.deBruijn64tab", laid_math_bits_deBruijn64tab), ("internal/strconv.uint64pow10", laid_internal_strconv_uint64pow10), ("strconv.ErrRange", laid_strconv_ErrRange), ("strconv.ErrSyntax", laid_strconv_ErrSyntax), ("pneumatic/lexer.ranges", laid_pneumatic_lexer_ranges)] }
def LabelParsesSaid : Prop := labelParsesRow.holds Tryz.pinned (OpenSpec.ofChange labelParsesSpec)

/-- ITS FALSE NEIGHBOUR: 'it returns false'. Refute it at one input. -/
def labelParsesWrong : ChangeSpec := { name := "labelParses", fn := fun _ => fun
  | [d] => { results := [.lit (.bool false)], args := [d] }
  | _ => none }
def LabelParsesWrongFalsely : Prop := labelParsesRow.holds Tryz.pinned (OpenSpec.ofChange labelParsesWrong)

/-- 'pneumaticlaw26.LabelNames': WHATEVER THE INPUT: true; the input reads as it did. -/
def labelNamesSpec : ChangeSpec := { name := "labelNames", fn := fun _ => fun
  | [d] => { results := [.lit (.bool true)], args := [d] }
  | _ => none }
def labelNamesRow : OpenClaim := { program := "ytkofnocfackjiaagreatdoor", sum := "c712158b8970fb1bcc0fb914bb5f76bdd8f14bf14adcf1fe515fd1d7c517b286", func := "pneumatic/pneumaticlaw26.LabelNames", spec := "labelNames", inPlace := ["internal/bytealg.IndexByteString", "internal/bytealg.abigen_runtime_cmpstring", "internal/bytealg.IndexString"], unfollowed := true, recurses := true, named := ["pneumatic/lexer.ranges", "internal/strconv.uint64pow10", "math/bits.deBruijn32tab", "math/bits.deBruijn64tab", "strconv.ErrSyntax", "strconv.ErrRange", "internal/bytealg.MaxLen"], plainKeys := false, apart := false, laid := [("math/bits.deBruijn32tab", laid_math_bits_deBruijn32tab), ("math/bits.deBruijn64tab", laid_math_bits_deBruijn64tab), ("internal/strconv.uint64pow10", laid_internal_strconv_uint64pow10), ("strconv.ErrRange", laid_strconv_ErrRange), ("strconv.ErrSyntax", laid_strconv_ErrSyntax), ("pneumatic/lexer.ranges", laid_pneumatic_lexer_ranges)] }
def LabelNamesSaid : Prop := labelNamesRow.holds Tryz.pinned (OpenSpec.ofChange labelNamesSpec)

/-- ITS FALSE NEIGHBOUR: 'it returns false'. Refute it at one input. -/
def labelNamesWrong : ChangeSpec := { name := "labelNames", fn := fun _ => fun
  | [d] => { results := [.lit (.bool false)], args := [d] }
  | _ => none }
def LabelNamesWrongFalsely : Prop := labelNamesRow.holds Tryz.pinned (OpenSpec.ofChange labelNamesWrong)

/-- 'pneumaticlaw26.LabelFinds': WHATEVER THE INPUT: true; the input reads as it did. -/
def labelFindsSpec : ChangeSpec := { name := "labelFinds", fn := fun _ => fun
  | [d1, d2] => { results := [.lit (.bool true)], args := [d1, d2] }
  | _ => none }
def labelFindsRow : OpenClaim := { program := "ytkofnocfackjiaagreatdoor", sum := "c712158b8970fb1bcc0fb914bb5f76bdd8f14bf14adcf1fe515fd1d7c517b286", func := "pneumatic/pneumaticlaw26.LabelFinds", spec := "labelFinds", inPlace := ["internal/bytealg.IndexByteString", "internal/bytealg.abigen_runtime_cmpstring", "internal/bytealg.IndexString"], unfollowed := true, recurses := true, named := ["pneumatic/lexer.ranges", "internal/strconv.uint64pow10", "math/bits.deBruijn32tab", "math/bits.deBruijn64tab", "strconv.ErrSyntax", "strconv.ErrRange", "internal/bytealg.MaxLen"], plainKeys := false, apart := false, laid := [("math/bits.deBruijn32tab", laid_math_bits_deBruijn32tab), ("math/bits.deBruijn64tab", laid_math_bits_deBruijn64tab), ("internal/strconv.uint64pow10", laid_internal_strconv_uint64pow10), ("strconv.ErrRange", laid_strconv_ErrRange), ("strconv.ErrSyntax", laid_strconv_ErrSyntax), ("pneumatic/lexer.ranges", laid_pneumatic_lexer_ranges)] }
def LabelFindsSaid : Prop := labelFindsRow.holds Tryz.pinned (OpenSpec.ofChange labelFindsSpec)

/-- ITS FALSE NEIGHBOUR: 'it returns false'. Refute it at one input. -/
def labelFindsWrong : ChangeSpec := { name := "labelFinds", fn := fun _ => fun
  | [d1, d2] => { results := [.lit (.bool false)], args := [d1, d2] }
  | _ => none }
def LabelFindsWrongFalsely : Prop := labelFindsRow.holds Tryz.pinned (OpenSpec.ofChange labelFindsWrong)

/-- 'pneumaticlaw26.LabelOrders': WHATEVER THE INPUT: true; the input reads as it did. -/
def labelOrdersSpec : ChangeSpec := { name := "labelOrders", fn := fun _ => fun
  | [d1, d2, d3] => { results := [.lit (.bool true)], args := [d1, d2, d3] }
  | _ => none }
def labelOrdersRow : OpenClaim := { program := "ytkofnocfackjiaagreatdoor", sum := "c712158b8970fb1bcc0fb914bb5f76bdd8f14bf14adcf1fe515fd1d7c517b286", func := "pneumatic/pneumaticlaw26.LabelOrders", spec := "labelOrders", inPlace := ["internal/bytealg.IndexByteString", "internal/bytealg.abigen_runtime_cmpstring", "internal/bytealg.IndexString"], unfollowed := true, recurses := true, named := ["pneumatic/lexer.ranges", "internal/strconv.uint64pow10", "math/bits.deBruijn32tab", "math/bits.deBruijn64tab", "strconv.ErrSyntax", "strconv.ErrRange", "internal/bytealg.MaxLen"], plainKeys := false, apart := false, laid := [("math/bits.deBruijn32tab", laid_math_bits_deBruijn32tab), ("math/bits.deBruijn64tab", laid_math_bits_deBruijn64tab), ("internal/strconv.uint64pow10", laid_internal_strconv_uint64pow10), ("strconv.ErrRange", laid_strconv_ErrRange), ("strconv.ErrSyntax", laid_strconv_ErrSyntax), ("pneumatic/lexer.ranges", laid_pneumatic_lexer_ranges)] }
def LabelOrdersSaid : Prop := labelOrdersRow.holds Tryz.pinned (OpenSpec.ofChange labelOrdersSpec)

/-- ITS FALSE NEIGHBOUR: 'it returns false'. Refute it at one input. -/
def labelOrdersWrong : ChangeSpec := { name := "labelOrders", fn := fun _ => fun
  | [d1, d2, d3] => { results := [.lit (.bool false)], args := [d1, d2, d3] }
  | _ => none }
def LabelOrdersWrongFalsely : Prop := labelOrdersRow.holds Tryz.pinned (OpenSpec.ofChange labelOrdersWrong)

/-- 'pneumaticlaw26.LabelDiffers': WHATEVER THE INPUT: true; the input reads as it did. -/
def labelDiffersSpec : ChangeSpec := { name := "labelDiffers", fn := fun _ => fun
  | [d] => { results := [.lit (.bool true)], args := [d] }
  | _ => none }
def labelDiffersRow : OpenClaim := { program := "ytkofnocfackjiaagreatdoor", sum := "c712158b8970fb1bcc0fb914bb5f76bdd8f14bf14adcf1fe515fd1d7c517b286", func := "pneumatic/pneumaticlaw26.LabelDiffers", spec := "labelDiffers", inPlace := ["internal/bytealg.IndexByteString", "internal/bytealg.abigen_runtime_cmpstring", "internal/bytealg.IndexString"], unfollowed := true, recurses := true, named := ["pneumatic/lexer.ranges", "internal/strconv.uint64pow10", "math/bits.deBruijn32tab", "math/bits.deBruijn64tab", "strconv.ErrSyntax", "strconv.ErrRange", "internal/bytealg.MaxLen"], plainKeys := false, apart := false, laid := [("math/bits.deBruijn32tab", laid_math_bits_deBruijn32tab), ("math/bits.deBruijn64tab", laid_math_bits_deBruijn64tab), ("internal/strconv.uint64pow10", laid_internal_strconv_uint64pow10), ("strconv.ErrRange", laid_strconv_ErrRange), ("strconv.ErrSyntax", laid_strconv_ErrSyntax), ("pneumatic/lexer.ranges", laid_pneumatic_lexer_ranges)] }
def LabelDiffersSaid : Prop := labelDiffersRow.holds Tryz.pinned (OpenSpec.ofChange labelDiffersSpec)

/-- ITS FALSE NEIGHBOUR: 'it returns false'. Refute it at one input. -/
def labelDiffersWrong : ChangeSpec := { name := "labelDiffers", fn := fun _ => fun
  | [d] => { results := [.lit (.bool false)], args := [d] }
  | _ => none }
def LabelDiffersWrongFalsely : Prop := labelDiffersRow.holds Tryz.pinned (OpenSpec.ofChange labelDiffersWrong)

/-- 'pneumaticlaw26.LabelFormats': WHATEVER THE INPUT: true; the input reads as it did. -/
def labelFormatsSpec : ChangeSpec := { name := "labelFormats", fn := fun _ => fun
  | [d1, d2] => { results := [.lit (.bool true)], args := [d1, d2] }
  | _ => none }
def labelFormatsRow : OpenClaim := { program := "ytkofnocfackjiaagreatdoor", sum := "c712158b8970fb1bcc0fb914bb5f76bdd8f14bf14adcf1fe515fd1d7c517b286", func := "pneumatic/pneumaticlaw26.LabelFormats", spec := "labelFormats", inPlace := ["internal/bytealg.IndexByteString", "internal/bytealg.abigen_runtime_cmpstring", "internal/bytealg.IndexString"], unfollowed := true, recurses := true, named := ["pneumatic/lexer.ranges", "internal/strconv.uint64pow10", "math/bits.deBruijn32tab", "math/bits.deBruijn64tab", "strconv.ErrSyntax", "strconv.ErrRange", "internal/bytealg.MaxLen"], plainKeys := false, apart := false, laid := [("math/bits.deBruijn32tab", laid_math_bits_deBruijn32tab), ("math/bits.deBruijn64tab", laid_math_bits_deBruijn64tab), ("internal/strconv.uint64pow10", laid_internal_strconv_uint64pow10), ("strconv.ErrRange", laid_strconv_ErrRange), ("strconv.ErrSyntax", laid_strconv_ErrSyntax), ("pneumatic/lexer.ranges", laid_pneumatic_lexer_ranges)] }
def LabelFormatsSaid : Prop := labelFormatsRow.holds Tryz.pinned (OpenSpec.ofChange labelFormatsSpec)

/-- ITS FALSE NEIGHBOUR: 'it returns false'. Refute it at one input. -/
def labelFormatsWrong : ChangeSpec := { name := "labelFormats", fn := fun _ => fun
  | [d1, d2] => { results := [.lit (.bool false)], args := [d1, d2] }
  | _ => none }
def LabelFormatsWrongFalsely : Prop := labelFormatsRow.holds Tryz.pinned (OpenSpec.ofChange labelFormatsWrong)

/-- 'pneumaticlaw26.LabelBelongs': WHATEVER THE INPUT: true; the input reads as it did. -/
def labelBelongsSpec : ChangeSpec := { name := "labelBelongs", fn := fun _ => fun
  | [d] => { results := [.lit (.bool true)], args := [d] }
  | _ => none }
def labelBelongsRow : OpenClaim := { program := "ytkofnocfackjiaagreatdoor", sum := "c712158b8970fb1bcc0fb914bb5f76bdd8f14bf14adcf1fe515fd1d7c517b286", func := "pneumatic/pneumaticlaw26.LabelBelongs", spec := "labelBelongs", inPlace := ["internal/bytealg.IndexByteString", "internal/bytealg.abigen_runtime_cmpstring", "internal/bytealg.IndexString"], unfollowed := true, recurses := true, named := ["pneumatic/lexer.ranges", "internal/strconv.uint64pow10", "math/bits.deBruijn32tab", "math/bits.deBruijn64tab", "strconv.ErrSyntax", "strconv.ErrRange", "internal/bytealg.MaxLen"], plainKeys := false, apart := false, laid := [("math/bits.deBruijn32tab", laid_math_bits_deBruijn32tab), ("math/bits.deBruijn64tab", laid_math_bits_deBruijn64tab), ("internal/strconv.uint64pow10", laid_internal_strconv_uint64pow10), ("strconv.ErrRange", laid_strconv_ErrRange), ("strconv.ErrSyntax", laid_strconv_ErrSyntax), ("pneumatic/lexer.ranges", laid_pneumatic_lexer_ranges)] }
def LabelBelongsSaid : Prop := labelBelongsRow.holds Tryz.pinned (OpenSpec.ofChange labelBelongsSpec)

/-- ITS FALSE NEIGHBOUR: 'it returns false'. Refute it at one input. -/
def labelBelongsWrong : ChangeSpec := { name := "labelBelongs", fn := fun _ => fun
  | [d] => { results := [.lit (.bool false)], args := [d] }
  | _ => none }
def LabelBelongsWrongFalsely : Prop := labelBelongsRow.holds Tryz.pinned (OpenSpec.ofChange labelBelongsWrong)

/-- 'pneumatictop.TopPressureDrives': WHATEVER THE INPUT: true; the input reads as it did. -/
def topPressureDrivesSpec : ChangeSpec := { name := "topPressureDrives", fn := fun _ => fun
  | [d1, d2] => { results := [.lit (.bool true)], args := [d1, d2] }
  | _ => none }
def topPressureDrivesRow : OpenClaim := { program := "ytkofnocfackjiaagreatdoor", sum := "c712158b8970fb1bcc0fb914bb5f76bdd8f14bf14adcf1fe515fd1d7c517b286", func := "pneumatic/pneumatictop.TopPressureDrives", spec := "topPressureDrives", inPlace := ["internal/bytealg.IndexByteString", "internal/bytealg.abigen_runtime_cmpstring"], unfollowed := true, recurses := true, named := ["pneumatic/lexer.ranges", "internal/strconv.uint64pow10", "math/bits.deBruijn32tab", "math/bits.deBruijn64tab"], plainKeys := false, apart := false, laid := [("math/bits.deBruijn32tab", laid_math_bits_deBruijn32tab), ("math/bits.deBruijn64tab", laid_math_bits_deBruijn64tab), ("internal/strconv.uint64pow10", laid_internal_strconv_uint64pow10), ("pneumatic/lexer.ranges", laid_pneumatic_lexer_ranges)] }
def TopPressureDrivesSaid : Prop := topPressureDrivesRow.holds Tryz.pinned (OpenSpec.ofChange topPressureDrivesSpec)

/-- ITS FALSE NEIGHBOUR: 'it returns false'. Refute it at one input. -/
def topPressureDrivesWrong : ChangeSpec := { name := "topPressureDrives", fn := fun _ => fun
  | [d1, d2] => { results := [.lit (.bool false)], args := [d1, d2] }
  | _ => none }
def TopPressureDrivesWrongFalsely : Prop := topPressureDrivesRow.holds Tryz.pinned (OpenSpec.ofChange topPressureDrivesWrong)

/- THE SECOND FORM. 'bulk': how many values and letters a reading holds, each counted each time it is reached (what is shared counts as often as it is met; a slice's spare places count too). A statement '..UptoSaid' is the law's where the arguments, and the package variables that the reading takes, are together of bulk at most 1048576: NARROWER than '..Said'. Prove '..Said' where nothing that the law and all that it calls make is longer than what came in: it says more and counts as full. Else prove '..UptoSaid'. A law counts once. -/
mutual
def uptoBulk {H : Type} : DataW H → Nat
  | .lit (.string bytes) => bytes.length + 1
  | .lit _ => 1
  | .nil => 1
  | .ptr d => uptoBulk d + 1
  | .slice elems spare => uptoBulkAll elems + uptoBulkAll spare + 1
  | .agg parts => uptoBulkAll parts + 1
  | .iface _ d => uptoBulk d + 1
  | .map entries => uptoBulkEntries entries + 1
  | .held _ => 1
def uptoBulkAll {H : Type} : List (DataW H) → Nat
  | [] => 0
  | d :: r => uptoBulk d + uptoBulkAll r
def uptoBulkEntries {H : Type} : List (Lit × DataW H) → Nat
  | [] => 0
  | x :: r => uptoBulkEntry x + uptoBulkEntries r
def uptoBulkEntry {H : Type} : Lit × DataW H → Nat
  | (.string bytes, d) => bytes.length + uptoBulk d + 1
  | (_, d) => uptoBulk d + 1
 end
def uptoSmall : (H : Type) → List (DataW H) → Bool := fun _ ds => decide (uptoBulkAll ds ≤ 1048576)
def OpenSpec.upto (s : _root_.Go.ChangeSpec) : _root_.Go.OpenSpec := { _root_.Go.OpenSpec.ofChange s with cond := some uptoSmall }

/-- 'pneumaticlaw26.LabelParses', WHERE WHAT IT READS IS OF BULK AT MOST 1048576: true; the input reads as it did. -/
def labelParsesUptoRow : OpenClaim := { program := "ytkofnocfackjiaagreatdoor", sum := "c712158b8970fb1bcc0fb914bb5f76bdd8f14bf14adcf1fe515fd1d7c517b286", func := "pneumatic/pneumaticlaw26.LabelParses", spec := "labelParses", inPlace := ["internal/bytealg.IndexByteString", "internal/bytealg.abigen_runtime_cmpstring", "internal/bytealg.IndexString"], unfollowed := true, recurses := true, named := ["pneumatic/lexer.ranges", "internal/strconv.uint64pow10", "math/bits.deBruijn32tab", "math/bits.deBruijn64tab", "strconv.ErrSyntax", "strconv.ErrRange", "internal/bytealg.MaxLen"], plainKeys := false, apart := false, laid := [("math/bits.deBruijn32tab", laid_math_bits_deBruijn32tab), ("math/bits.deBruijn64tab", laid_math_bits_deBruijn64tab), ("internal/strconv.uint64pow10", laid_internal_strconv_uint64pow10), ("strconv.ErrRange", laid_strconv_ErrRange), ("strconv.ErrSyntax", laid_strconv_ErrSyntax), ("pneumatic/lexer.ranges", laid_pneumatic_lexer_ranges)], narrowed := true }
def LabelParsesUptoSaid : Prop := labelParsesUptoRow.holds Tryz.pinned (OpenSpec.upto labelParsesSpec)

/-- 'pneumaticlaw26.LabelNames', WHERE WHAT IT READS IS OF BULK AT MOST 1048576: true; the input reads as it did. -/
def labelNamesUptoRow : OpenClaim := { program := "ytkofnocfackjiaagreatdoor", sum := "c712158b8970fb1bcc0fb914bb5f76bdd8f14bf14adcf1fe515fd1d7c517b286", func := "pneumatic/pneumaticlaw26.LabelNames", spec := "labelNames", inPlace := ["internal/bytealg.IndexByteString", "internal/bytealg.abigen_runtime_cmpstring", "internal/bytealg.IndexString"], unfollowed := true, recurses := true, named := ["pneumatic/lexer.ranges", "internal/strconv.uint64pow10", "math/bits.deBruijn32tab", "math/bits.deBruijn64tab", "strconv.ErrSyntax", "strconv.ErrRange", "internal/bytealg.MaxLen"], plainKeys := false, apart := false, laid := [("math/bits.deBruijn32tab", laid_math_bits_deBruijn32tab), ("math/bits.deBruijn64tab", laid_math_bits_deBruijn64tab), ("internal/strconv.uint64pow10", laid_internal_strconv_uint64pow10), ("strconv.ErrRange", laid_strconv_ErrRange), ("strconv.ErrSyntax", laid_strconv_ErrSyntax), ("pneumatic/lexer.ranges", laid_pneumatic_lexer_ranges)], narrowed := true }
def LabelNamesUptoSaid : Prop := labelNamesUptoRow.holds Tryz.pinned (OpenSpec.upto labelNamesSpec)

/-- 'pneumaticlaw26.LabelFinds', WHERE WHAT IT READS IS OF BULK AT MOST 1048576: true; the input reads as it did. -/
def labelFindsUptoRow : OpenClaim := { program := "ytkofnocfackjiaagreatdoor", sum := "c712158b8970fb1bcc0fb914bb5f76bdd8f14bf14adcf1fe515fd1d7c517b286", func := "pneumatic/pneumaticlaw26.LabelFinds", spec := "labelFinds", inPlace := ["internal/bytealg.IndexByteString", "internal/bytealg.abigen_runtime_cmpstring", "internal/bytealg.IndexString"], unfollowed := true, recurses := true, named := ["pneumatic/lexer.ranges", "internal/strconv.uint64pow10", "math/bits.deBruijn32tab", "math/bits.deBruijn64tab", "strconv.ErrSyntax", "strconv.ErrRange", "internal/bytealg.MaxLen"], plainKeys := false, apart := false, laid := [("math/bits.deBruijn32tab", laid_math_bits_deBruijn32tab), ("math/bits.deBruijn64tab", laid_math_bits_deBruijn64tab), ("internal/strconv.uint64pow10", laid_internal_strconv_uint64pow10), ("strconv.ErrRange", laid_strconv_ErrRange), ("strconv.ErrSyntax", laid_strconv_ErrSyntax), ("pneumatic/lexer.ranges", laid_pneumatic_lexer_ranges)], narrowed := true }
def LabelFindsUptoSaid : Prop := labelFindsUptoRow.holds Tryz.pinned (OpenSpec.upto labelFindsSpec)

/-- 'pneumaticlaw26.LabelOrders', WHERE WHAT IT READS IS OF BULK AT MOST 1048576: true; the input reads as it did. -/
def labelOrdersUptoRow : OpenClaim := { program := "ytkofnocfackjiaagreatdoor", sum := "c712158b8970fb1bcc0fb914bb5f76bdd8f14bf14adcf1fe515fd1d7c517b286", func := "pneumatic/pneumaticlaw26.LabelOrders", spec := "labelOrders", inPlace := ["internal/bytealg.IndexByteString", "internal/bytealg.abigen_runtime_cmpstring", "internal/bytealg.IndexString"], unfollowed := true, recurses := true, named := ["pneumatic/lexer.ranges", "internal/strconv.uint64pow10", "math/bits.deBruijn32tab", "math/bits.deBruijn64tab", "strconv.ErrSyntax", "strconv.ErrRange", "internal/bytealg.MaxLen"], plainKeys := false, apart := false, laid := [("math/bits.deBruijn32tab", laid_math_bits_deBruijn32tab), ("math/bits.deBruijn64tab", laid_math_bits_deBruijn64tab), ("internal/strconv.uint64pow10", laid_internal_strconv_uint64pow10), ("strconv.ErrRange", laid_strconv_ErrRange), ("strconv.ErrSyntax", laid_strconv_ErrSyntax), ("pneumatic/lexer.ranges", laid_pneumatic_lexer_ranges)], narrowed := true }
def LabelOrdersUptoSaid : Prop := labelOrdersUptoRow.holds Tryz.pinned (OpenSpec.upto labelOrdersSpec)

/-- 'pneumaticlaw26.LabelDiffers', WHERE WHAT IT READS IS OF BULK AT MOST 1048576: true; the input reads as it did. -/
def labelDiffersUptoRow : OpenClaim := { program := "ytkofnocfackjiaagreatdoor", sum := "c712158b8970fb1bcc0fb914bb5f76bdd8f14bf14adcf1fe515fd1d7c517b286", func := "pneumatic/pneumaticlaw26.LabelDiffers", spec := "labelDiffers", inPlace := ["internal/bytealg.IndexByteString", "internal/bytealg.abigen_runtime_cmpstring", "internal/bytealg.IndexString"], unfollowed := true, recurses := true, named := ["pneumatic/lexer.ranges", "internal/strconv.uint64pow10", "math/bits.deBruijn32tab", "math/bits.deBruijn64tab", "strconv.ErrSyntax", "strconv.ErrRange", "internal/bytealg.MaxLen"], plainKeys := false, apart := false, laid := [("math/bits.deBruijn32tab", laid_math_bits_deBruijn32tab), ("math/bits.deBruijn64tab", laid_math_bits_deBruijn64tab), ("internal/strconv.uint64pow10", laid_internal_strconv_uint64pow10), ("strconv.ErrRange", laid_strconv_ErrRange), ("strconv.ErrSyntax", laid_strconv_ErrSyntax), ("pneumatic/lexer.ranges", laid_pneumatic_lexer_ranges)], narrowed := true }
def LabelDiffersUptoSaid : Prop := labelDiffersUptoRow.holds Tryz.pinned (OpenSpec.upto labelDiffersSpec)

/-- 'pneumaticlaw26.LabelFormats', WHERE WHAT IT READS IS OF BULK AT MOST 1048576: true; the input reads as it did. -/
def labelFormatsUptoRow : OpenClaim := { program := "ytkofnocfackjiaagreatdoor", sum := "c712158b8970fb1bcc0fb914bb5f76bdd8f14bf14adcf1fe515fd1d7c517b286", func := "pneumatic/pneumaticlaw26.LabelFormats", spec := "labelFormats", inPlace := ["internal/bytealg.IndexByteString", "internal/bytealg.abigen_runtime_cmpstring", "internal/bytealg.IndexString"], unfollowed := true, recurses := true, named := ["pneumatic/lexer.ranges", "internal/strconv.uint64pow10", "math/bits.deBruijn32tab", "math/bits.deBruijn64tab", "strconv.ErrSyntax", "strconv.ErrRange", "internal/bytealg.MaxLen"], plainKeys := false, apart := false, laid := [("math/bits.deBruijn32tab", laid_math_bits_deBruijn32tab), ("math/bits.deBruijn64tab", laid_math_bits_deBruijn64tab), ("internal/strconv.uint64pow10", laid_internal_strconv_uint64pow10), ("strconv.ErrRange", laid_strconv_ErrRange), ("strconv.ErrSyntax", laid_strconv_ErrSyntax), ("pneumatic/lexer.ranges", laid_pneumatic_lexer_ranges)], narrowed := true }
def LabelFormatsUptoSaid : Prop := labelFormatsUptoRow.holds Tryz.pinned (OpenSpec.upto labelFormatsSpec)

/-- 'pneumaticlaw26.LabelBelongs', WHERE WHAT IT READS IS OF BULK AT MOST 1048576: true; the input reads as it did. -/
def labelBelongsUptoRow : OpenClaim := { program := "ytkofnocfackjiaagreatdoor", sum := "c712158b8970fb1bcc0fb914bb5f76bdd8f14bf14adcf1fe515fd1d7c517b286", func := "pneumatic/pneumaticlaw26.LabelBelongs", spec := "labelBelongs", inPlace := ["internal/bytealg.IndexByteString", "internal/bytealg.abigen_runtime_cmpstring", "internal/bytealg.IndexString"], unfollowed := true, recurses := true, named := ["pneumatic/lexer.ranges", "internal/strconv.uint64pow10", "math/bits.deBruijn32tab", "math/bits.deBruijn64tab", "strconv.ErrSyntax", "strconv.ErrRange", "internal/bytealg.MaxLen"], plainKeys := false, apart := false, laid := [("math/bits.deBruijn32tab", laid_math_bits_deBruijn32tab), ("math/bits.deBruijn64tab", laid_math_bits_deBruijn64tab), ("internal/strconv.uint64pow10", laid_internal_strconv_uint64pow10), ("strconv.ErrRange", laid_strconv_ErrRange), ("strconv.ErrSyntax", laid_strconv_ErrSyntax), ("pneumatic/lexer.ranges", laid_pneumatic_lexer_ranges)], narrowed := true }
def LabelBelongsUptoSaid : Prop := labelBelongsUptoRow.holds Tryz.pinned (OpenSpec.upto labelBelongsSpec)

/-- 'pneumatictop.TopPressureDrives', WHERE WHAT IT READS IS OF BULK AT MOST 1048576: true; the input reads as it did. -/
def topPressureDrivesUptoRow : OpenClaim := { program := "ytkofnocfackjiaagreatdoor", sum := "c712158b8970fb1bcc0fb914bb5f76bdd8f14bf14adcf1fe515fd1d7c517b286", func := "pneumatic/pneumatictop.TopPressureDrives", spec := "topPressureDrives", inPlace := ["internal/bytealg.IndexByteString", "internal/bytealg.abigen_runtime_cmpstring"], unfollowed := true, recurses := true, named := ["pneumatic/lexer.ranges", "internal/strconv.uint64pow10", "math/bits.deBruijn32tab", "math/bits.deBruijn64tab"], plainKeys := false, apart := false, laid := [("math/bits.deBruijn32tab", laid_math_bits_deBruijn32tab), ("math/bits.deBruijn64tab", laid_math_bits_deBruijn64tab), ("internal/strconv.uint64pow10", laid_internal_strconv_uint64pow10), ("pneumatic/lexer.ranges", laid_pneumatic_lexer_ranges)], narrowed := true }
def TopPressureDrivesUptoSaid : Prop := topPressureDrivesUptoRow.holds Tryz.pinned (OpenSpec.upto topPressureDrivesSpec)

end Rows
end Go.Proofs.YtkofnocfackjiaaGreatDoor
