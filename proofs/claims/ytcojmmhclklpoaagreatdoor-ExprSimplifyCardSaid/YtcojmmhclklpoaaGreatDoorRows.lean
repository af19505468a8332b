/-
  NARROWER THAN 'FOR EVERY INPUT', by the rows' own cells (each row's printed sentence says how): ExprFamily: laid · ExprDual: laid · ExprSubstitute: laid · ExprOf: laid · ExprTexts: laid · ExprParse: laid · ExprEval: laid · ExprSimplify: laid · ExprEquivalent: laid · ExprValid: laid.
  DERIVED. THE GIVEN ROWS OF THIS SEAT. 10 by the template 'for every input the law returns true; each argument reads behind the call as it read before'; 0 by the template 'total and deterministic' (their statements: YtcojmmhclklpoaaGreatDoorTotals.lean).
  GIVEN WITH THE SEED: the statements are not yours to turn. If you find one false, say at which input.
  Laid BY PROGRAM, IN A SANDBOX (cutbox-rows.mjs): the forced cells as the released guide's own fill.sh prints them over the translation 1568cad52831e02c… (all of the seat's roots in one cut). By AI agents, Wed Nov 11 2026. No macro, syntax, notation, axiom, sorry.
-/
import Derived.Test.YtcojmmhclklpoaaGreatDoorChecked
import GoSem.Claim
import GoSem.ClaimJoined
import GoSem.ClaimMapViews
import Derived.JoinedTies
import Derived.KernelRfl
namespace Go.Proofs.YtcojmmhclklpoaaGreatDoor
/- THE CELL 'sum', in the pinned program and in every row, IS THE sha256 OF THE DUMP (.gsa) THAT YtcojmmhclklpoaaGreatDoorProg.lean LOADS. Nothing in Lean hashes anything: it is a label: what it is worth is what the hold of that sum in a sandbox is worth. -/
noncomputable def Tryz.pinned : Pinned := { name := "ytcojmmhclklpoaagreatdoor", sum := "1568cad52831e02c5560174e19799156c93155e5db4b479cb17c36077453a77a", checked := Tryz.checked }
namespace Rows
def none {H : Type} : Left H := { results := [], args := [] }

/- WHAT THE LISTED PACKAGE-LEVEL VARIABLES READ AS WHEN THE CALL BEGINS. Each datum BY PROGRAM (the guide's laid-datum.mjs) off the statement by which the dump's own 'gosem.cut.vars' lays the variable. In a bare row this is a premise. The card (YtcojmmhclklpoaaGreatDoorCards.lean) ties it to the program's text. -/
def laid_math_bits_deBruijn32tab {H : Type} : DataW H := .agg [.lit (.int .u8 0), .lit (.int .u8 1), .lit (.int .u8 28), .lit (.int .u8 2), .lit (.int .u8 29), .lit (.int .u8 14), .lit (.int .u8 24), .lit (.int .u8 3), .lit (.int .u8 30), .lit (.int .u8 22), .lit (.int .u8 20), .lit (.int .u8 15), .lit (.int .u8 25), .lit (.int .u8 17), .lit (.int .u8 4), .lit (.int .u8 8), .lit (.int .u8 31), .lit (.int .u8 27), .lit (.int .u8 13), .lit (.int .u8 23), .lit (.int .u8 21), .lit (.int .u8 19), .lit (.int .u8 16), .lit (.int .u8 7), .lit (.int .u8 26), .lit (.int .u8 12), .lit (.int .u8 18), .lit (.int .u8 6), .lit (.int .u8 11), .lit (.int .u8 5), .lit (.int .u8 10), .lit (.int .u8 9)]
def laid_math_bits_deBruijn64tab {H : Type} : DataW H := .agg [.lit (.int .u8 0), .lit (.int .u8 1), .lit (.int .u8 56), .lit (.int .u8 2), .lit (.int .u8 57), .lit (.int .u8 49), .lit (.int .u8 28), .lit (.int .u8 3), .lit (.int .u8 61), .lit (.int .u8 58), .lit (.int .u8 42), .lit (.int .u8 50), .lit (.int .u8 38), .lit (.int .u8 29), .lit (.int .u8 17), .lit (.int .u8 4), .lit (.int .u8 62), .lit (.int .u8 47), .lit (.int .u8 59), .lit (.int .u8 36), .lit (.int .u8 45), .lit (.int .u8 43), .lit (.int .u8 51), .lit (.int .u8 22), .lit (.int .u8 53), .lit (.int .u8 39), .lit (.int .u8 33), .lit (.int .u8 30), .lit (.int .u8 24), .lit (.int .u8 18), .lit (.int .u8 12), .lit (.int .u8 5), .lit (.int .u8 63), .lit (.int .u8 55), .lit (.int .u8 48), .lit (.int .u8 27), .lit (.int .u8 60), .lit (.int .u8 41), .lit (.int .u8 37), .lit (.int .u8 16), .lit (.int .u8 46), .lit (.int .u8 35), .lit (.int .u8 44), .lit (.int .u8 21), .lit (.int .u8 52), .lit (.int .u8 32), .lit (.int .u8 23), .lit (.int .u8 11), .lit (.int .u8 54), .lit (.int .u8 26), .lit (.int .u8 40), .lit (.int .u8 15), .lit (.int .u8 34), .lit (.int .u8 20), .lit (.int .u8 31), .lit (.int .u8 10), .lit (.int .u8 25), .lit (.int .u8 14), .lit (.int .u8 19), .lit (.int .u8 9), .lit (.int .u8 13), .lit (.int .u8 8), .lit (.int .u8 7), .lit (.int .u8 6)]
def laid_internal_strconv_uint64pow10 {H : Type} : DataW H := .agg [.lit (.int .u64 1), .lit (.int .u64 10), .lit (.int .u64 100), .lit (.int .u64 1000), .lit (.int .u64 10000), .lit (.int .u64 100000), .lit (.int .u64 1000000), .lit (.int .u64 10000000), .lit (.int .u64 100000000), .lit (.int .u64 1000000000), .lit (.int .u64 10000000000), .lit (.int .u64 100000000000), .lit (.int .u64 1000000000000), .lit (.int .u64 10000000000000), .lit (.int .u64 100000000000000), .lit (.int .u64 1000000000000000), .lit (.int .u64 10000000000000000), .lit (.int .u64 100000000000000000), .lit (.int .u64 1000000000000000000), .lit (.int .u64 10000000000000000000)]
def laid_strconv_ErrRange {H : Type} : DataW H := .iface "*errors.errorString" (.ptr (.agg [.lit (.string [118, 97, 108, 117, 101, 32, 111, 117, 116, 32, 111, 102, 32, 114, 97, 110, 103, 101])]))
def laid_strconv_ErrSyntax {H : Type} : DataW H := .iface "*errors.errorString" (.ptr (.agg [.lit (.string [105, 110, 118, 97, 108, 105, 100, 32, 115, 121, 110, 116, 97, 120])]))

/-- 'sederuntlaw10.ExprFamily': WHATEVER THE INPUT: true; the input reads as it did. -/
def exprFamilySpec : ChangeSpec := { name := "exprFamily", fn := fun _ => fun
  | [d] => { results := [.lit (.bool true)], args := [d] }
  | _ => none }
def exprFamilyRow : OpenClaim := { program := "ytcojmmhclklpoaagreatdoor", sum := "1568cad52831e02c5560174e19799156c93155e5db4b479cb17c36077453a77a", func := "sederunt/sederuntlaw10.ExprFamily", spec := "exprFamily", inPlace := ["internal/abi.NoEscape"], unfollowed := true, recurses := true, named := ["strconv.ErrSyntax", "strconv.ErrRange", "internal/strconv.uint64pow10", "math/bits.deBruijn32tab", "math/bits.deBruijn64tab"], apart := false, laid := [("math/bits.deBruijn32tab", laid_math_bits_deBruijn32tab), ("math/bits.deBruijn64tab", laid_math_bits_deBruijn64tab), ("internal/strconv.uint64pow10", laid_internal_strconv_uint64pow10), ("strconv.ErrRange", laid_strconv_ErrRange), ("strconv.ErrSyntax", laid_strconv_ErrSyntax)] }
def ExprFamilySaid : Prop := exprFamilyRow.holds Tryz.pinned (OpenSpec.ofChange exprFamilySpec)

/-- ITS FALSE NEIGHBOUR: 'it returns false'. Refute it at one input. -/
def exprFamilyWrong : ChangeSpec := { name := "exprFamily", fn := fun _ => fun
  | [d] => { results := [.lit (.bool false)], args := [d] }
  | _ => none }
def ExprFamilyWrongFalsely : Prop := exprFamilyRow.holds Tryz.pinned (OpenSpec.ofChange exprFamilyWrong)

/-- 'sederuntlaw10.ExprDual': WHATEVER THE INPUT: true; the input reads as it did. -/
def exprDualSpec : ChangeSpec := { name := "exprDual", fn := fun _ => fun
  | [d1, d2] => { results := [.lit (.bool true)], args := [d1, d2] }
  | _ => none }
def exprDualRow : OpenClaim := { program := "ytcojmmhclklpoaagreatdoor", sum := "1568cad52831e02c5560174e19799156c93155e5db4b479cb17c36077453a77a", func := "sederunt/sederuntlaw10.ExprDual", spec := "exprDual", inPlace := ["internal/abi.NoEscape"], unfollowed := true, recurses := true, named := ["strconv.ErrSyntax", "strconv.ErrRange", "internal/strconv.uint64pow10", "math/bits.deBruijn32tab", "math/bits.deBruijn64tab"], apart := false, laid := [("math/bits.deBruijn32tab", laid_math_bits_deBruijn32tab), ("math/bits.deBruijn64tab", laid_math_bits_deBruijn64tab), ("internal/strconv.uint64pow10", laid_internal_strconv_uint64pow10), ("strconv.ErrRange", laid_strconv_ErrRange), ("strconv.ErrSyntax", laid_strconv_ErrSyntax)] }
def ExprDualSaid : Prop := exprDualRow.holds Tryz.pinned (OpenSpec.ofChange exprDualSpec)

/-- ITS FALSE NEIGHBOUR: 'it returns false'. Refute it at one input. -/
def exprDualWrong : ChangeSpec := { name := "exprDual", fn := fun _ => fun
  | [d1, d2] => { results := [.lit (.bool false)], args := [d1, d2] }
  | _ => none }
def ExprDualWrongFalsely : Prop := exprDualRow.holds Tryz.pinned (OpenSpec.ofChange exprDualWrong)

/-- 'sederuntlaw10.ExprSubstitute': WHATEVER THE INPUT: true; the input reads as it did. -/
def exprSubstituteSpec : ChangeSpec := { name := "exprSubstitute", fn := fun _ => fun
  | [d1, d2, d3] => { results := [.lit (.bool true)], args := [d1, d2, d3] }
  | _ => none }
def exprSubstituteRow : OpenClaim := { program := "ytcojmmhclklpoaagreatdoor", sum := "1568cad52831e02c5560174e19799156c93155e5db4b479cb17c36077453a77a", func := "sederunt/sederuntlaw10.ExprSubstitute", spec := "exprSubstitute", inPlace := ["internal/abi.NoEscape"], unfollowed := true, recurses := true, named := ["strconv.ErrSyntax", "strconv.ErrRange", "internal/strconv.uint64pow10", "math/bits.deBruijn32tab", "math/bits.deBruijn64tab"], apart := false, laid := [("math/bits.deBruijn32tab", laid_math_bits_deBruijn32tab), ("math/bits.deBruijn64tab", laid_math_bits_deBruijn64tab), ("internal/strconv.uint64pow10", laid_internal_strconv_uint64pow10), ("strconv.ErrRange", laid_strconv_ErrRange), ("strconv.ErrSyntax", laid_strconv_ErrSyntax)] }
def ExprSubstituteSaid : Prop := exprSubstituteRow.holds Tryz.pinned (OpenSpec.ofChange exprSubstituteSpec)

/-- ITS FALSE NEIGHBOUR: 'it returns false'. Refute it at one input. -/
def exprSubstituteWrong : ChangeSpec := { name := "exprSubstitute", fn := fun _ => fun
  | [d1, d2, d3] => { results := [.lit (.bool false)], args := [d1, d2, d3] }
  | _ => none }
def ExprSubstituteWrongFalsely : Prop := exprSubstituteRow.holds Tryz.pinned (OpenSpec.ofChange exprSubstituteWrong)

/-- 'sederuntlaw10.ExprOf': WHATEVER THE INPUT: true; the input reads as it did. -/
def exprOfSpec : ChangeSpec := { name := "exprOf", fn := fun _ => fun
  | [d] => { results := [.lit (.bool true)], args := [d] }
  | _ => none }
def exprOfRow : OpenClaim := { program := "ytcojmmhclklpoaagreatdoor", sum := "1568cad52831e02c5560174e19799156c93155e5db4b479cb17c36077453a77a", func := "sederunt/sederuntlaw10.ExprOf", spec := "exprOf", inPlace := ["internal/abi.NoEscape"], unfollowed := true, recurses := true, named := ["strconv.ErrSyntax", "strconv.ErrRange", "internal/strconv.uint64pow10", "math/bits.deBruijn32tab", "math/bits.deBruijn64tab"], apart := false, laid := [("math/bits.deBruijn32tab", laid_math_bits_deBruijn32tab), ("math/bits.deBruijn64tab", laid_math_bits_deBruijn64tab), ("internal/strconv.uint64pow10", laid_internal_strconv_uint64pow10), ("strconv.ErrRange", laid_strconv_ErrRange), ("strconv.ErrSyntax", laid_strconv_ErrSyntax)] }
def ExprOfSaid : Prop := exprOfRow.holds Tryz.pinned (OpenSpec.ofChange exprOfSpec)

/-- ITS FALSE NEIGHBOUR: 'it returns false'. Refute it at one input. -/
def exprOfWrong : ChangeSpec := { name := "exprOf", fn := fun _ => fun
  | [d] => { results := [.lit (.bool false)], args := [d] }
  | _ => none }
def ExprOfWrongFalsely : Prop := exprOfRow.holds Tryz.pinned (OpenSpec.ofChange exprOfWrong)

/-- 'sederuntlaw10.ExprTexts': WHATEVER THE INPUT: true; the input reads as it did. -/
def exprTextsSpec : ChangeSpec := { name := "exprTexts", fn := fun _ => fun
  | [d] => { results := [.lit (.bool true)], args := [d] }
  | _ => none }
def exprTextsRow : OpenClaim := { program := "ytcojmmhclklpoaagreatdoor", sum := "1568cad52831e02c5560174e19799156c93155e5db4b479cb17c36077453a77a", func := "sederunt/sederuntlaw10.ExprTexts", spec := "exprTexts", inPlace := ["internal/abi.NoEscape"], unfollowed := true, recurses := true, named := ["strconv.ErrSyntax", "strconv.ErrRange", "internal/strconv.uint64pow10", "math/bits.deBruijn32tab", "math/bits.deBruijn64tab"], apart := false, laid := [("math/bits.deBruijn32tab", laid_math_bits_deBruijn32tab), ("math/bits.deBruijn64tab", laid_math_bits_deBruijn64tab), ("internal/strconv.uint64pow10", laid_internal_strconv_uint64pow10), ("strconv.ErrRange", laid_strconv_ErrRange), ("strconv.ErrSyntax", laid_strconv_ErrSyntax)] }
def ExprTextsSaid : Prop := exprTextsRow.holds Tryz.pinned (OpenSpec.ofChange exprTextsSpec)

/-- ITS FALSE NEIGHBOUR: 'it returns false'. Refute it at one input. -/
def exprTextsWrong : ChangeSpec := { name := "exprTexts", fn := fun _ => fun
  | [d] => { results := [.lit (.bool false)], args := [d] }
  | _ => none }
def ExprTextsWrongFalsely : Prop := exprTextsRow.holds Tryz.pinned (OpenSpec.ofChange exprTextsWrong)

/-- 'sederuntlaw10.ExprParse': WHATEVER THE INPUT: true; the input reads as it did. -/
def exprParseSpec : ChangeSpec := { name := "exprParse", fn := fun _ => fun
  | [d] => { results := [.lit (.bool true)], args := [d] }
  | _ => none }
def exprParseRow : OpenClaim := { program := "ytcojmmhclklpoaagreatdoor", sum := "1568cad52831e02c5560174e19799156c93155e5db4b479cb17c36077453a77a", func := "sederunt/sederuntlaw10.ExprParse", spec := "exprParse", inPlace := ["internal/abi.NoEscape"], unfollowed := true, recurses := true, named := ["strconv.ErrSyntax", "strconv.ErrRange", "internal/strconv.uint64pow10", "math/bits.deBruijn32tab", "math/bits.deBruijn64tab"], apart := false, laid := [("math/bits.deBruijn32tab", laid_math_bits_deBruijn32tab), ("math/bits.deBruijn64tab", laid_math_bits_deBruijn64tab), ("internal/strconv.uint64pow10", laid_internal_strconv_uint64pow10), ("strconv.ErrRange", laid_strconv_ErrRange), ("strconv.ErrSyntax", laid_strconv_ErrSyntax)] }
def ExprParseSaid : Prop := exprParseRow.holds Tryz.pinned (OpenSpec.ofChange exprParseSpec)

/-- ITS FALSE NEIGHBOUR: 'it returns false'. Refute it at one input. -/
def exprParseWrong : ChangeSpec := { name := "exprParse", fn := fun _ => fun
  | [d] => { results := [.lit (.bool false)], args := [d] }
  | _ => none }
def ExprParseWrongFalsely : Prop := exprParseRow.holds Tryz.pinned (OpenSpec.ofChange exprParseWrong)

/-- 'sederuntlaw10.ExprEval': WHATEVER THE INPUT: true; the input reads as it did. -/
def exprEvalSpec : ChangeSpec := { name := "exprEval", fn := fun _ => fun
  | [d1, d2, d3] => { results := [.lit (.bool true)], args := [d1, d2, d3] }
  | _ => none }
def exprEvalRow : OpenClaim := { program := "ytcojmmhclklpoaagreatdoor", sum := "1568cad52831e02c5560174e19799156c93155e5db4b479cb17c36077453a77a", func := "sederunt/sederuntlaw10.ExprEval", spec := "exprEval", inPlace := ["internal/abi.NoEscape"], unfollowed := true, recurses := true, named := ["strconv.ErrSyntax", "strconv.ErrRange", "internal/strconv.uint64pow10", "math/bits.deBruijn32tab", "math/bits.deBruijn64tab"], apart := false, laid := [("math/bits.deBruijn32tab", laid_math_bits_deBruijn32tab), ("math/bits.deBruijn64tab", laid_math_bits_deBruijn64tab), ("internal/strconv.uint64pow10", laid_internal_strconv_uint64pow10), ("strconv.ErrRange", laid_strconv_ErrRange), ("strconv.ErrSyntax", laid_strconv_ErrSyntax)] }
def ExprEvalSaid : Prop := exprEvalRow.holds Tryz.pinned (OpenSpec.ofChange exprEvalSpec)

/-- ITS FALSE NEIGHBOUR: 'it returns false'. Refute it at one input. -/
def exprEvalWrong : ChangeSpec := { name := "exprEval", fn := fun _ => fun
  | [d1, d2, d3] => { results := [.lit (.bool false)], args := [d1, d2, d3] }
  | _ => none }
def ExprEvalWrongFalsely : Prop := exprEvalRow.holds Tryz.pinned (OpenSpec.ofChange exprEvalWrong)

/-- 'sederuntlaw10.ExprSimplify': WHATEVER THE INPUT: true; the input reads as it did. -/
def exprSimplifySpec : ChangeSpec := { name := "exprSimplify", fn := fun _ => fun
  | [d] => { results := [.lit (.bool true)], args := [d] }
  | _ => none }
def exprSimplifyRow : OpenClaim := { program := "ytcojmmhclklpoaagreatdoor", sum := "1568cad52831e02c5560174e19799156c93155e5db4b479cb17c36077453a77a", func := "sederunt/sederuntlaw10.ExprSimplify", spec := "exprSimplify", inPlace := ["internal/abi.NoEscape"], unfollowed := true, recurses := true, named := ["strconv.ErrSyntax", "strconv.ErrRange", "internal/strconv.uint64pow10", "math/bits.deBruijn32tab", "math/bits.deBruijn64tab"], apart := false, laid := [("math/bits.deBruijn32tab", laid_math_bits_deBruijn32tab), ("math/bits.deBruijn64tab", laid_math_bits_deBruijn64tab), ("internal/strconv.uint64pow10", laid_internal_strconv_uint64pow10), ("strconv.ErrRange", laid_strconv_ErrRange), ("strconv.ErrSyntax", laid_strconv_ErrSyntax)] }
def ExprSimplifySaid : Prop := exprSimplifyRow.holds Tryz.pinned (OpenSpec.ofChange exprSimplifySpec)

/-- ITS FALSE NEIGHBOUR: 'it returns false'. Refute it at one input. -/
def exprSimplifyWrong : ChangeSpec := { name := "exprSimplify", fn := fun _ => fun
  | [d] => { results := [.lit (.bool false)], args := [d] }
  | _ => none }
def ExprSimplifyWrongFalsely : Prop := exprSimplifyRow.holds Tryz.pinned (OpenSpec.ofChange exprSimplifyWrong)

/-- 'sederuntlaw10.ExprEquivalent': WHATEVER THE INPUT: true; the input reads as it did. -/
def exprEquivalentSpec : ChangeSpec := { name := "exprEquivalent", fn := fun _ => fun
  | [d1, d2] => { results := [.lit (.bool true)], args := [d1, d2] }
  | _ => none }
def exprEquivalentRow : OpenClaim := { program := "ytcojmmhclklpoaagreatdoor", sum := "1568cad52831e02c5560174e19799156c93155e5db4b479cb17c36077453a77a", func := "sederunt/sederuntlaw10.ExprEquivalent", spec := "exprEquivalent", inPlace := ["internal/abi.NoEscape"], unfollowed := true, recurses := true, named := ["strconv.ErrSyntax", "strconv.ErrRange", "internal/strconv.uint64pow10", "math/bits.deBruijn32tab", "math/bits.deBruijn64tab"], apart := false, laid := [("math/bits.deBruijn32tab", laid_math_bits_deBruijn32tab), ("math/bits.deBruijn64tab", laid_math_bits_deBruijn64tab), ("internal/strconv.uint64pow10", laid_internal_strconv_uint64pow10), ("strconv.ErrRange", laid_strconv_ErrRange), ("strconv.ErrSyntax", laid_strconv_ErrSyntax)] }
def ExprEquivalentSaid : Prop := exprEquivalentRow.holds Tryz.pinned (OpenSpec.ofChange exprEquivalentSpec)

/-- ITS FALSE NEIGHBOUR: 'it returns false'. Refute it at one input. -/
def exprEquivalentWrong : ChangeSpec := { name := "exprEquivalent", fn := fun _ => fun
  | [d1, d2] => { results := [.lit (.bool false)], args := [d1, d2] }
  | _ => none }
def ExprEquivalentWrongFalsely : Prop := exprEquivalentRow.holds Tryz.pinned (OpenSpec.ofChange exprEquivalentWrong)

/-- 'sederuntlaw10.ExprValid': WHATEVER THE INPUT: true; the input reads as it did. -/
def exprValidSpec : ChangeSpec := { name := "exprValid", fn := fun _ => fun
  | [d] => { results := [.lit (.bool true)], args := [d] }
  | _ => none }
def exprValidRow : OpenClaim := { program := "ytcojmmhclklpoaagreatdoor", sum := "1568cad52831e02c5560174e19799156c93155e5db4b479cb17c36077453a77a", func := "sederunt/sederuntlaw10.ExprValid", spec := "exprValid", inPlace := ["internal/abi.NoEscape"], unfollowed := true, recurses := true, named := ["strconv.ErrSyntax", "strconv.ErrRange", "internal/strconv.uint64pow10", "math/bits.deBruijn32tab", "math/bits.deBruijn64tab"], apart := false, laid := [("math/bits.deBruijn32tab", laid_math_bits_deBruijn32tab), ("math/bits.deBruijn64tab", laid_math_bits_deBruijn64tab), ("internal/strconv.uint64pow10", laid_internal_strconv_uint64pow10), ("strconv.ErrRange", laid_strconv_ErrRange), ("strconv.ErrSyntax", laid_strconv_ErrSyntax)] }
def ExprValidSaid : Prop := exprValidRow.holds Tryz.pinned (OpenSpec.ofChange exprValidSpec)

/-- ITS FALSE NEIGHBOUR: 'it returns false'. Refute it at one input. -/
def exprValidWrong : ChangeSpec := { name := "exprValid", fn := fun _ => fun
  | [d] => { results := [.lit (.bool false)], args := [d] }
  | _ => none }
def ExprValidWrongFalsely : Prop := exprValidRow.holds Tryz.pinned (OpenSpec.ofChange exprValidWrong)

/- THE SECOND FORM. 'bulk': how many values and letters a reading holds, each counted each time it is reached (what is shared counts as often as it is met; a slice's spare places count too). A statement '..UptoSaid' is the law's where the arguments, and the package variables that the reading takes, are together of bulk at most 1048576: NARROWER than '..Said'. Prove '..Said' where nothing that the law and all that it calls make is longer than what came in: it says more and counts as full. Else prove '..UptoSaid'. A law counts once. -/
mutual
def uptoBulk {H : Type} : DataW H → Nat
  | .lit (.string bytes) => bytes.length + 1
  | .lit _ => 1
  | .nil => 1
  | .ptr d => uptoBulk d + 1
  | .slice elems spare => uptoBulkAll elems + uptoBulkAll spare + 1
  | .agg parts => uptoBulkAll parts + 1
  | .iface _ d => uptoBulk d + 1
  | .map entries => uptoBulkEntries entries + 1
  | .held _ => 1
def uptoBulkAll {H : Type} : List (DataW H) → Nat
  | [] => 0
  | d :: r => uptoBulk d + uptoBulkAll r
def uptoBulkEntries {H : Type} : List (Lit × DataW H) → Nat
  | [] => 0
  | x :: r => uptoBulkEntry x + uptoBulkEntries r
def uptoBulkEntry {H : Type} : Lit × DataW H → Nat
  | (.string bytes, d) => bytes.length + uptoBulk d + 1
  | (_, d) => uptoBulk d + 1
 end
def uptoSmall : (H : Type) → List (DataW H) → Bool := fun _ ds => decide (uptoBulkAll ds ≤ 1048576)
def OpenSpec.upto (s : _root_.Go.ChangeSpec) : _root_.Go.OpenSpec := { _root_.Go.OpenSpec.ofChange s with cond := some uptoSmall }

/-- 'sederuntlaw10.ExprFamily', WHERE WHAT IT READS IS OF BULK AT MOST 1048576: true; the input reads as it did. -/
def exprFamilyUptoRow : OpenClaim := { program := "ytcojmmhclklpoaagreatdoor", sum := "1568cad52831e02c5560174e19799156c93155e5db4b479cb17c36077453a77a", func := "sederunt/sederuntlaw10.ExprFamily", spec := "exprFamily", inPlace := ["internal/abi.NoEscape"], unfollowed := true, recurses := true, named := ["strconv.ErrSyntax", "strconv.ErrRange", "internal/strconv.uint64pow10", "math/bits.deBruijn32tab", "math/bits.deBruijn64tab"], apart := false, laid := [("math/bits.deBruijn32tab", laid_math_bits_deBruijn32tab), ("math/bits.deBruijn64tab", laid_math_bits_deBruijn64tab), ("internal/strconv.uint64pow10", laid_internal_strconv_uint64pow10), ("strconv.ErrRange", laid_strconv_ErrRange), ("strconv.ErrSyntax", laid_strconv_ErrSyntax)], narrowed := true }
def ExprFamilyUptoSaid : Prop := exprFamilyUptoRow.holds Tryz.pinned (OpenSpec.upto exprFamilySpec)

/-- 'sederuntlaw10.ExprDual', WHERE WHAT IT READS IS OF BULK AT MOST 1048576: true; the input reads as it did. -/
def exprDualUptoRow : OpenClaim := { program := "ytcojmmhclklpoaagreatdoor", sum := "1568cad52831e02c5560174e19799156c93155e5db4b479cb17c36077453a77a", func := "sederunt/sederuntlaw10.ExprDual", spec := "exprDual", inPlace := ["internal/abi.NoEscape"], unfollowed := true, recurses := true, named := ["strconv.ErrSyntax", "strconv.ErrRange", "internal/strconv.uint64pow10", "math/bits.deBruijn32tab", "math/bits.deBruijn64tab"], apart := false, laid := [("math/bits.deBruijn32tab", laid_math_bits_deBruijn32tab), ("math/bits.deBruijn64tab", laid_math_bits_deBruijn64tab), ("internal/strconv.uint64pow10", laid_internal_strconv_uint64pow10), ("strconv.ErrRange", laid_strconv_ErrRange), ("strconv.ErrSyntax", laid_strconv_ErrSyntax)], narrowed := true }
def ExprDualUptoSaid : Prop := exprDualUptoRow.holds Tryz.pinned (OpenSpec.upto exprDualSpec)

/-- 'sederuntlaw10.ExprSubstitute', WHERE WHAT IT READS IS OF BULK AT MOST 1048576: true; the input reads as it did. -/
def exprSubstituteUptoRow : OpenClaim := { program := "ytcojmmhclklpoaagreatdoor", sum := "1568cad52831e02c5560174e19799156c93155e5db4b479cb17c36077453a77a", func := "sederunt/sederuntlaw10.ExprSubstitute", spec := "exprSubstitute", inPlace := ["internal/abi.NoEscape"], unfollowed := true, recurses := true, named := ["strconv.ErrSyntax", "strconv.ErrRange", "internal/strconv.uint64pow10", "math/bits.deBruijn32tab", "math/bits.deBruijn64tab"], apart := false, laid := [("math/bits.deBruijn32tab", laid_math_bits_deBruijn32tab), ("math/bits.deBruijn64tab", laid_math_bits_deBruijn64tab), ("internal/strconv.uint64pow10", laid_internal_strconv_uint64pow10), ("strconv.ErrRange", laid_strconv_ErrRange), ("strconv.ErrSyntax", laid_strconv_ErrSyntax)], narrowed := true }
def ExprSubstituteUptoSaid : Prop := exprSubstituteUptoRow.holds Tryz.pinned (OpenSpec.upto exprSubstituteSpec)

/-- 'sederuntlaw10.ExprOf', WHERE WHAT IT READS IS OF BULK AT MOST 1048576: true; the input reads as it did. -/
def exprOfUptoRow : OpenClaim := { program := "ytcojmmhclklpoaagreatdoor", sum := "1568cad52831e02c5560174e19799156c93155e5db4b479cb17c36077453a77a", func := "sederunt/sederuntlaw10.ExprOf", spec := "exprOf", inPlace := ["internal/abi.NoEscape"], unfollowed := true, recurses := true, named := ["strconv.ErrSyntax", "strconv.ErrRange", "internal/strconv.uint64pow10", "math/bits.deBruijn32tab", "math/bits.deBruijn64tab"], apart := false, laid := [("math/bits.deBruijn32tab", laid_math_bits_deBruijn32tab), ("math/bits.deBruijn64tab", laid_math_bits_deBruijn64tab), ("internal/strconv.uint64pow10", laid_internal_strconv_uint64pow10), ("strconv.ErrRange", laid_strconv_ErrRange), ("strconv.ErrSyntax", laid_strconv_ErrSyntax)], narrowed := true }
def ExprOfUptoSaid : Prop := exprOfUptoRow.holds Tryz.pinned (OpenSpec.upto exprOfSpec)

/-- 'sederuntlaw10.ExprTexts', WHERE WHAT IT READS IS OF BULK AT MOST 1048576: true; the input reads as it did. -/
def exprTextsUptoRow : OpenClaim := { program := "ytcojmmhclklpoaagreatdoor", sum := "1568cad52831e02c5560174e19799156c93155e5db4b479cb17c36077453a77a", func := "sederunt/sederuntlaw10.ExprTexts", spec := "exprTexts", inPlace := ["internal/abi.NoEscape"], unfollowed := true, recurses := true, named := ["strconv.ErrSyntax", "strconv.ErrRange", "internal/strconv.uint64pow10", "math/bits.deBruijn32tab", "math/bits.deBruijn64tab"], apart := false, laid := [("math/bits.deBruijn32tab", laid_math_bits_deBruijn32tab), ("math/bits.deBruijn64tab", laid_math_bits_deBruijn64tab), ("internal/strconv.uint64pow10", laid_internal_strconv_uint64pow10), ("strconv.ErrRange", laid_strconv_ErrRange), ("strconv.ErrSyntax", laid_strconv_ErrSyntax)], narrowed := true }
def ExprTextsUptoSaid : Prop := exprTextsUptoRow.holds Tryz.pinned (OpenSpec.upto exprTextsSpec)

/-- 'sederuntlaw10.ExprParse', WHERE WHAT IT READS IS OF BULK AT MOST 1048576: true; the input reads as it did. -/
def exprParseUptoRow : OpenClaim := { program := "ytcojmmhclklpoaagreatdoor", sum := "1568cad52831e02c5560174e19799156c93155e5db4b479cb17c36077453a77a", func := "sederunt/sederuntlaw10.ExprParse", spec := "exprParse", inPlace := ["internal/abi.NoEscape"], unfollowed := true, recurses := true, named := ["strconv.ErrSyntax", "strconv.ErrRange", "internal/strconv.uint64pow10", "math/bits.deBruijn32tab", "math/bits.deBruijn64tab"], apart := false, laid := [("math/bits.deBruijn32tab", laid_math_bits_deBruijn32tab), ("math/bits.deBruijn64tab", laid_math_bits_deBruijn64tab), ("internal/strconv.uint64pow10", laid_internal_strconv_uint64pow10), ("strconv.ErrRange", laid_strconv_ErrRange), ("strconv.ErrSyntax", laid_strconv_ErrSyntax)], narrowed := true }
def ExprParseUptoSaid : Prop := exprParseUptoRow.holds Tryz.pinned (OpenSpec.upto exprParseSpec)

/-- 'sederuntlaw10.ExprEval', WHERE WHAT IT READS IS OF BULK AT MOST 1048576: true; the input reads as it did. -/
def exprEvalUptoRow : OpenClaim := { program := "ytcojmmhclklpoaagreatdoor", sum := "1568cad52831e02c5560174e19799156c93155e5db4b479cb17c36077453a77a", func := "sederunt/sederuntlaw10.ExprEval", spec := "exprEval", inPlace := ["internal/abi.NoEscape"], unfollowed := true, recurses := true, named := ["strconv.ErrSyntax", "strconv.ErrRange", "internal/strconv.uint64pow10", "math/bits.deBruijn32tab", "math/bits.deBruijn64tab"], apart := false, laid := [("math/bits.deBruijn32tab", laid_math_bits_deBruijn32tab), ("math/bits.deBruijn64tab", laid_math_bits_deBruijn64tab), ("internal/strconv.uint64pow10", laid_internal_strconv_uint64pow10), ("strconv.ErrRange", laid_strconv_ErrRange), ("strconv.ErrSyntax", laid_strconv_ErrSyntax)], narrowed := true }
def ExprEvalUptoSaid : Prop := exprEvalUptoRow.holds Tryz.pinned (OpenSpec.upto exprEvalSpec)

/-- 'sederuntlaw10.ExprSimplify', WHERE WHAT IT READS IS OF BULK AT MOST 1048576: true; the input reads as it did. -/
def exprSimplifyUptoRow : OpenClaim := { program := "ytcojmmhclklpoaagreatdoor", sum := "1568cad52831e02c5560174e19799156c93155e5db4b479cb17c36077453a77a", func := "sederunt/sederuntlaw10.ExprSimplify", spec := "exprSimplify", inPlace := ["internal/abi.NoEscape"], unfollowed := true, recurses := true, named := ["strconv.ErrSyntax", "strconv.ErrRange", "internal/strconv.uint64pow10", "math/bits.deBruijn32tab", "math/bits.deBruijn64tab"], apart := false, laid := [("math/bits.deBruijn32tab", laid_math_bits_deBruijn32tab), ("math/bits.deBruijn64tab", laid_math_bits_deBruijn64tab), ("internal/strconv.uint64pow10", laid_internal_strconv_uint64pow10), ("strconv.ErrRange", laid_strconv_ErrRange), ("strconv.ErrSyntax", laid_strconv_ErrSyntax)], narrowed := true }
def ExprSimplifyUptoSaid : Prop := exprSimplifyUptoRow.holds Tryz.pinned (OpenSpec.upto exprSimplifySpec)

/-- 'sederuntlaw10.ExprEquivalent', WHERE WHAT IT READS IS OF BULK AT MOST 1048576: true; the input reads as it did. -/
def exprEquivalentUptoRow : OpenClaim := { program := "ytcojmmhclklpoaagreatdoor", sum := "1568cad52831e02c5560174e19799156c93155e5db4b479cb17c36077453a77a", func := "sederunt/sederuntlaw10.ExprEquivalent", spec := "exprEquivalent", inPlace := ["internal/abi.NoEscape"], unfollowed := true, recurses := true, named := ["strconv.ErrSyntax", "strconv.ErrRange", "internal/strconv.uint64pow10", "math/bits.deBruijn32tab", "math/bits.deBruijn64tab"], apart := false, laid := [("math/bits.deBruijn32tab", laid_math_bits_deBruijn32tab), ("math/bits.deBruijn64tab", laid_math_bits_deBruijn64tab), ("internal/strconv.uint64pow10", laid_internal_strconv_uint64pow10), ("strconv.ErrRange", laid_strconv_ErrRange), ("strconv.ErrSyntax", laid_strconv_ErrSyntax)], narrowed := true }
def ExprEquivalentUptoSaid : Prop := exprEquivalentUptoRow.holds Tryz.pinned (OpenSpec.upto exprEquivalentSpec)

/-- 'sederuntlaw10.ExprValid', WHERE WHAT IT READS IS OF BULK AT MOST 1048576: true; the input reads as it did. -/
def exprValidUptoRow : OpenClaim := { program := "ytcojmmhclklpoaagreatdoor", sum := "1568cad52831e02c5560174e19799156c93155e5db4b479cb17c36077453a77a", func := "sederunt/sederuntlaw10.ExprValid", spec := "exprValid", inPlace := ["internal/abi.NoEscape"], unfollowed := true, recurses := true, named := ["strconv.ErrSyntax", "strconv.ErrRange", "internal/strconv.uint64pow10", "math/bits.deBruijn32tab", "math/bits.deBruijn64tab"], apart := false, laid := [("math/bits.deBruijn32tab", laid_math_bits_deBruijn32tab), ("math/bits.deBruijn64tab", laid_math_bits_deBruijn64tab), ("internal/strconv.uint64pow10", laid_internal_strconv_uint64pow10), ("strconv.ErrRange", laid_strconv_ErrRange), ("strconv.ErrSyntax", laid_strconv_ErrSyntax)], narrowed := true }
def ExprValidUptoSaid : Prop := exprValidUptoRow.holds Tryz.pinned (OpenSpec.upto exprValidSpec)

end Rows
end Go.Proofs.YtcojmmhclklpoaaGreatDoor
