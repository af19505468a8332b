/-
  NARROWER THAN 'FOR EVERY INPUT', by the rows' own cells (each row's printed sentence says how): SetOrder: laid · SetSubsets: laid · SetChoose: laid · SetEarly: laid · SetFull: laid · SetRename: laid · SetMembers: laid · SetText: laid · SetParse: laid · SetOf: laid.
  DERIVED. THE GIVEN ROWS OF THIS SEAT. 10 by the template 'for every input the law returns true; each argument reads behind the call as it read before'; 0 by the template 'total and deterministic' (their statements: YthkboibhkpkliaaDoorTotals.lean).
  GIVEN WITH THE SEED: the statements are not yours to turn. If you find one false, say at which input.
  Laid BY PROGRAM, IN A SANDBOX (cutbox-rows.mjs): the forced cells as the released guide's own fill.sh prints them over the translation 1eec59c480f05077… (all of the seat's roots in one cut). By AI agents, Wed Nov 11 2026. No macro, syntax, notation, axiom, sorry.
-/
import Derived.Test.YthkboibhkpkliaaDoorChecked
import GoSem.Claim
import GoSem.ClaimJoined
import GoSem.ClaimMapViews
import Derived.JoinedTies
import Derived.KernelRfl
namespace Go.Proofs.YthkboibhkpkliaaDoor
/- THE CELL 'sum', in the pinned program and in every row, IS THE sha256 OF THE DUMP (.gsa) THAT YthkboibhkpkliaaDoorProg.lean LOADS. Nothing in Lean hashes anything: it is a label: what it is worth is what the hold of that sum in a sandbox is worth. -/
noncomputable def Tryd.pinned : Pinned := { name := "ythkboibhkpkliaadoor", sum := "1eec59c480f05077cec21ec594579024ceced52cce2e692f006623f1624411cf", checked := Tryd.checked }
namespace Rows
def none {H : Type} : Left H := { results := [], args := [] }

/- WHAT THE LISTED PACKAGE-LEVEL VARIABLES READ AS WHEN THE CALL BEGINS. Each datum BY PROGRAM (the guide's laid-datum.mjs) off the statement by which the dump's own 'gosem.cut.vars' lays the variable. In a bare row this is a premise. The card (YthkboibhkpkliaaDoorCards.lean) ties it to the program's text. -/
def laid_math_bits_deBruijn32tab {H : Type} : DataW H := .agg [.lit (.int .u8 0), .lit (.int .u8 1), .lit (.int .u8 28), .lit (.int .u8 2), .lit (.int .u8 29), .lit (.int .u8 14), .lit (.int .u8 24), .lit (.int .u8 3), .lit (.int .u8 30), .lit (.int .u8 22), .lit (.int .u8 20), .lit (.int .u8 15), .lit (.int .u8 25), .lit (.int .u8 17), .lit (.int .u8 4), .lit (.int .u8 8), .lit (.int .u8 31), .lit (.int .u8 27), .lit (.int .u8 13), .lit (.int .u8 23), .lit (.int .u8 21), .lit (.int .u8 19), .lit (.int .u8 16), .lit (.int .u8 7), .lit (.int .u8 26), .lit (.int .u8 12), .lit (.int .u8 18), .lit (.int .u8 6), .lit (.int .u8 11), .lit (.int .u8 5), .lit (.int .u8 10), .lit (.int .u8 9)]
def laid_math_bits_deBruijn64tab {H : Type} : DataW H := .agg [.lit (.int .u8 0), .lit (.int .u8 1), .lit (.int .u8 56), .lit (.int .u8 2), .lit (.int .u8 57), .lit (.int .u8 49), .lit (.int .u8 28), .lit (.int .u8 3), .lit (.int .u8 61), .lit (.int .u8 58), .lit (.int .u8 42), .lit (.int .u8 50), .lit (.int .u8 38), .lit (.int .u8 29), .lit (.int .u8 17), .lit (.int .u8 4), .lit (.int .u8 62), .lit (.int .u8 47), .lit (.int .u8 59), .lit (.int .u8 36), .lit (.int .u8 45), .lit (.int .u8 43), .lit (.int .u8 51), .lit (.int .u8 22), .lit (.int .u8 53), .lit (.int .u8 39), .lit (.int .u8 33), .lit (.int .u8 30), .lit (.int .u8 24), .lit (.int .u8 18), .lit (.int .u8 12), .lit (.int .u8 5), .lit (.int .u8 63), .lit (.int .u8 55), .lit (.int .u8 48), .lit (.int .u8 27), .lit (.int .u8 60), .lit (.int .u8 41), .lit (.int .u8 37), .lit (.int .u8 16), .lit (.int .u8 46), .lit (.int .u8 35), .lit (.int .u8 44), .lit (.int .u8 21), .lit (.int .u8 52), .lit (.int .u8 32), .lit (.int .u8 23), .lit (.int .u8 11), .lit (.int .u8 54), .lit (.int .u8 26), .lit (.int .u8 40), .lit (.int .u8 15), .lit (.int .u8 34), .lit (.int .u8 20), .lit (.int .u8 31), .lit (.int .u8 10), .lit (.int .u8 25), .lit (.int .u8 14), .lit (.int .u8 19), .lit (.int .u8 9), .lit (.int .u8 13), .lit (.int .u8 8), .lit (.int .u8 7), .lit (.int .u8 6)]
def laid_internal_strconv_uint64pow10 {H : Type} : DataW H := .agg [.lit (.int .u64 1), .lit (.int .u64 10), .lit (.int .u64 100), .lit (.int .u64 1000), .lit (.int .u64 10000), .lit (.int .u64 100000), .lit (.int .u64 1000000), .lit (.int .u64 10000000), .lit (.int .u64 100000000), .lit (.int .u64 1000000000), .lit (.int .u64 10000000000), .lit (.int .u64 100000000000), .lit (.int .u64 1000000000000), .lit (.int .u64 10000000000000), .lit (.int .u64 100000000000000), .lit (.int .u64 1000000000000000), .lit (.int .u64 10000000000000000), .lit (.int .u64 100000000000000000), .lit (.int .u64 1000000000000000000), .lit (.int .u64 10000000000000000000)]
def laid_strconv_ErrRange {H : Type} : DataW H := .iface "*errors.errorString" (.ptr (.agg [.lit (.string [118, 97, 108, 117, 101, 32, 111, 117, 116, 32, 111, 102, 32, 114, 97, 110, 103, 101])]))
def laid_strconv_ErrSyntax {H : Type} : DataW H := .iface "*errors.errorString" (.ptr (.agg [.lit (.string [105, 110, 118, 97, 108, 105, 100, 32, 115, 121, 110, 116, 97, 120])]))

/-- 'sederuntlaw07.SetOrder': WHATEVER THE INPUT: true; the input reads as it did. -/
def setOrderSpec : ChangeSpec := { name := "setOrder", fn := fun _ => fun
  | [d1, d2, d3] => { results := [.lit (.bool true)], args := [d1, d2, d3] }
  | _ => none }
def setOrderRow : OpenClaim := { program := "ythkboibhkpkliaadoor", sum := "1eec59c480f05077cec21ec594579024ceced52cce2e692f006623f1624411cf", func := "sederunt/sederuntlaw07.SetOrder", spec := "setOrder", inPlace := ["internal/abi.NoEscape", "internal/bytealg.MakeNoZero"], unfollowed := true, recurses := true, named := ["math/bits.deBruijn32tab", "internal/strconv.uint64pow10", "math/bits.deBruijn64tab"], apart := false, laid := [("math/bits.deBruijn32tab", laid_math_bits_deBruijn32tab), ("math/bits.deBruijn64tab", laid_math_bits_deBruijn64tab), ("internal/strconv.uint64pow10", laid_internal_strconv_uint64pow10)] }
def SetOrderSaid : Prop := setOrderRow.holds Tryd.pinned (OpenSpec.ofChange setOrderSpec)

/-- ITS FALSE NEIGHBOUR: 'it returns false'. Refute it at one input. -/
def setOrderWrong : ChangeSpec := { name := "setOrder", fn := fun _ => fun
  | [d1, d2, d3] => { results := [.lit (.bool false)], args := [d1, d2, d3] }
  | _ => none }
def SetOrderWrongFalsely : Prop := setOrderRow.holds Tryd.pinned (OpenSpec.ofChange setOrderWrong)

/-- 'sederuntlaw07.SetSubsets': WHATEVER THE INPUT: true; the input reads as it did. -/
def setSubsetsSpec : ChangeSpec := { name := "setSubsets", fn := fun _ => fun
  | [d] => { results := [.lit (.bool true)], args := [d] }
  | _ => none }
def setSubsetsRow : OpenClaim := { program := "ythkboibhkpkliaadoor", sum := "1eec59c480f05077cec21ec594579024ceced52cce2e692f006623f1624411cf", func := "sederunt/sederuntlaw07.SetSubsets", spec := "setSubsets", inPlace := ["internal/abi.NoEscape", "internal/bytealg.MakeNoZero"], unfollowed := true, recurses := true, named := ["math/bits.deBruijn32tab", "internal/strconv.uint64pow10", "math/bits.deBruijn64tab"], apart := false, laid := [("math/bits.deBruijn32tab", laid_math_bits_deBruijn32tab), ("math/bits.deBruijn64tab", laid_math_bits_deBruijn64tab), ("internal/strconv.uint64pow10", laid_internal_strconv_uint64pow10)] }
def SetSubsetsSaid : Prop := setSubsetsRow.holds Tryd.pinned (OpenSpec.ofChange setSubsetsSpec)

/-- ITS FALSE NEIGHBOUR: 'it returns false'. Refute it at one input. -/
def setSubsetsWrong : ChangeSpec := { name := "setSubsets", fn := fun _ => fun
  | [d] => { results := [.lit (.bool false)], args := [d] }
  | _ => none }
def SetSubsetsWrongFalsely : Prop := setSubsetsRow.holds Tryd.pinned (OpenSpec.ofChange setSubsetsWrong)

/-- 'sederuntlaw07.SetChoose': WHATEVER THE INPUT: true; the input reads as it did. -/
def setChooseSpec : ChangeSpec := { name := "setChoose", fn := fun _ => fun
  | [d1, d2] => { results := [.lit (.bool true)], args := [d1, d2] }
  | _ => none }
def setChooseRow : OpenClaim := { program := "ythkboibhkpkliaadoor", sum := "1eec59c480f05077cec21ec594579024ceced52cce2e692f006623f1624411cf", func := "sederunt/sederuntlaw07.SetChoose", spec := "setChoose", inPlace := ["internal/abi.NoEscape", "internal/bytealg.MakeNoZero"], unfollowed := true, recurses := true, named := ["math/bits.deBruijn32tab", "internal/strconv.uint64pow10", "math/bits.deBruijn64tab"], apart := false, laid := [("math/bits.deBruijn32tab", laid_math_bits_deBruijn32tab), ("math/bits.deBruijn64tab", laid_math_bits_deBruijn64tab), ("internal/strconv.uint64pow10", laid_internal_strconv_uint64pow10)] }
def SetChooseSaid : Prop := setChooseRow.holds Tryd.pinned (OpenSpec.ofChange setChooseSpec)

/-- ITS FALSE NEIGHBOUR: 'it returns false'. Refute it at one input. -/
def setChooseWrong : ChangeSpec := { name := "setChoose", fn := fun _ => fun
  | [d1, d2] => { results := [.lit (.bool false)], args := [d1, d2] }
  | _ => none }
def SetChooseWrongFalsely : Prop := setChooseRow.holds Tryd.pinned (OpenSpec.ofChange setChooseWrong)

/-- 'sederuntlaw07.SetEarly': WHATEVER THE INPUT: true; the input reads as it did. -/
def setEarlySpec : ChangeSpec := { name := "setEarly", fn := fun _ => fun
  | [d1, d2, d3] => { results := [.lit (.bool true)], args := [d1, d2, d3] }
  | _ => none }
def setEarlyRow : OpenClaim := { program := "ythkboibhkpkliaadoor", sum := "1eec59c480f05077cec21ec594579024ceced52cce2e692f006623f1624411cf", func := "sederunt/sederuntlaw07.SetEarly", spec := "setEarly", inPlace := ["internal/abi.NoEscape", "internal/bytealg.MakeNoZero"], unfollowed := true, recurses := true, named := ["math/bits.deBruijn32tab", "internal/strconv.uint64pow10", "math/bits.deBruijn64tab"], apart := false, laid := [("math/bits.deBruijn32tab", laid_math_bits_deBruijn32tab), ("math/bits.deBruijn64tab", laid_math_bits_deBruijn64tab), ("internal/strconv.uint64pow10", laid_internal_strconv_uint64pow10)] }
def SetEarlySaid : Prop := setEarlyRow.holds Tryd.pinned (OpenSpec.ofChange setEarlySpec)

/-- ITS FALSE NEIGHBOUR: 'it returns false'. Refute it at one input. -/
def setEarlyWrong : ChangeSpec := { name := "setEarly", fn := fun _ => fun
  | [d1, d2, d3] => { results := [.lit (.bool false)], args := [d1, d2, d3] }
  | _ => none }
def SetEarlyWrongFalsely : Prop := setEarlyRow.holds Tryd.pinned (OpenSpec.ofChange setEarlyWrong)

/-- 'sederuntlaw07.SetFull': WHATEVER THE INPUT: true; the input reads as it did. -/
def setFullSpec : ChangeSpec := { name := "setFull", fn := fun _ => fun
  | [d] => { results := [.lit (.bool true)], args := [d] }
  | _ => none }
def setFullRow : OpenClaim := { program := "ythkboibhkpkliaadoor", sum := "1eec59c480f05077cec21ec594579024ceced52cce2e692f006623f1624411cf", func := "sederunt/sederuntlaw07.SetFull", spec := "setFull", inPlace := ["internal/abi.NoEscape", "internal/bytealg.MakeNoZero"], unfollowed := true, recurses := true, named := ["math/bits.deBruijn32tab", "internal/strconv.uint64pow10", "math/bits.deBruijn64tab"], apart := false, laid := [("math/bits.deBruijn32tab", laid_math_bits_deBruijn32tab), ("math/bits.deBruijn64tab", laid_math_bits_deBruijn64tab), ("internal/strconv.uint64pow10", laid_internal_strconv_uint64pow10)] }
def SetFullSaid : Prop := setFullRow.holds Tryd.pinned (OpenSpec.ofChange setFullSpec)

/-- ITS FALSE NEIGHBOUR: 'it returns false'. Refute it at one input. -/
def setFullWrong : ChangeSpec := { name := "setFull", fn := fun _ => fun
  | [d] => { results := [.lit (.bool false)], args := [d] }
  | _ => none }
def SetFullWrongFalsely : Prop := setFullRow.holds Tryd.pinned (OpenSpec.ofChange setFullWrong)

/-- 'sederuntlaw07.SetRename': WHATEVER THE INPUT: true; the input reads as it did. -/
def setRenameSpec : ChangeSpec := { name := "setRename", fn := fun _ => fun
  | [d1, d2] => { results := [.lit (.bool true)], args := [d1, d2] }
  | _ => none }
def setRenameRow : OpenClaim := { program := "ythkboibhkpkliaadoor", sum := "1eec59c480f05077cec21ec594579024ceced52cce2e692f006623f1624411cf", func := "sederunt/sederuntlaw07.SetRename", spec := "setRename", inPlace := ["internal/abi.NoEscape", "internal/bytealg.MakeNoZero"], unfollowed := true, recurses := true, named := ["math/bits.deBruijn32tab", "internal/strconv.uint64pow10", "math/bits.deBruijn64tab"], apart := false, laid := [("math/bits.deBruijn32tab", laid_math_bits_deBruijn32tab), ("math/bits.deBruijn64tab", laid_math_bits_deBruijn64tab), ("internal/strconv.uint64pow10", laid_internal_strconv_uint64pow10)] }
def SetRenameSaid : Prop := setRenameRow.holds Tryd.pinned (OpenSpec.ofChange setRenameSpec)

/-- ITS FALSE NEIGHBOUR: 'it returns false'. Refute it at one input. -/
def setRenameWrong : ChangeSpec := { name := "setRename", fn := fun _ => fun
  | [d1, d2] => { results := [.lit (.bool false)], args := [d1, d2] }
  | _ => none }
def SetRenameWrongFalsely : Prop := setRenameRow.holds Tryd.pinned (OpenSpec.ofChange setRenameWrong)

/-- 'sederuntlaw07.SetMembers': WHATEVER THE INPUT: true; the input reads as it did. -/
def setMembersSpec : ChangeSpec := { name := "setMembers", fn := fun _ => fun
  | [d] => { results := [.lit (.bool true)], args := [d] }
  | _ => none }
def setMembersRow : OpenClaim := { program := "ythkboibhkpkliaadoor", sum := "1eec59c480f05077cec21ec594579024ceced52cce2e692f006623f1624411cf", func := "sederunt/sederuntlaw07.SetMembers", spec := "setMembers", inPlace := ["internal/abi.NoEscape", "internal/bytealg.MakeNoZero"], unfollowed := true, recurses := true, named := ["math/bits.deBruijn32tab", "internal/strconv.uint64pow10", "math/bits.deBruijn64tab"], apart := false, laid := [("math/bits.deBruijn32tab", laid_math_bits_deBruijn32tab), ("math/bits.deBruijn64tab", laid_math_bits_deBruijn64tab), ("internal/strconv.uint64pow10", laid_internal_strconv_uint64pow10)] }
def SetMembersSaid : Prop := setMembersRow.holds Tryd.pinned (OpenSpec.ofChange setMembersSpec)

/-- ITS FALSE NEIGHBOUR: 'it returns false'. Refute it at one input. -/
def setMembersWrong : ChangeSpec := { name := "setMembers", fn := fun _ => fun
  | [d] => { results := [.lit (.bool false)], args := [d] }
  | _ => none }
def SetMembersWrongFalsely : Prop := setMembersRow.holds Tryd.pinned (OpenSpec.ofChange setMembersWrong)

/-- 'sederuntlaw07.SetText': WHATEVER THE INPUT: true; the input reads as it did. -/
def setTextSpec : ChangeSpec := { name := "setText", fn := fun _ => fun
  | [d] => { results := [.lit (.bool true)], args := [d] }
  | _ => none }
def setTextRow : OpenClaim := { program := "ythkboibhkpkliaadoor", sum := "1eec59c480f05077cec21ec594579024ceced52cce2e692f006623f1624411cf", func := "sederunt/sederuntlaw07.SetText", spec := "setText", inPlace := ["internal/abi.NoEscape", "internal/bytealg.MakeNoZero"], unfollowed := true, recurses := true, named := ["math/bits.deBruijn32tab", "internal/strconv.uint64pow10", "math/bits.deBruijn64tab", "strconv.ErrSyntax", "strconv.ErrRange"], apart := false, laid := [("math/bits.deBruijn32tab", laid_math_bits_deBruijn32tab), ("math/bits.deBruijn64tab", laid_math_bits_deBruijn64tab), ("internal/strconv.uint64pow10", laid_internal_strconv_uint64pow10), ("strconv.ErrRange", laid_strconv_ErrRange), ("strconv.ErrSyntax", laid_strconv_ErrSyntax)] }
def SetTextSaid : Prop := setTextRow.holds Tryd.pinned (OpenSpec.ofChange setTextSpec)

/-- ITS FALSE NEIGHBOUR: 'it returns false'. Refute it at one input. -/
def setTextWrong : ChangeSpec := { name := "setText", fn := fun _ => fun
  | [d] => { results := [.lit (.bool false)], args := [d] }
  | _ => none }
def SetTextWrongFalsely : Prop := setTextRow.holds Tryd.pinned (OpenSpec.ofChange setTextWrong)

/-- 'sederuntlaw07.SetParse': WHATEVER THE INPUT: true; the input reads as it did. -/
def setParseSpec : ChangeSpec := { name := "setParse", fn := fun _ => fun
  | [d] => { results := [.lit (.bool true)], args := [d] }
  | _ => none }
def setParseRow : OpenClaim := { program := "ythkboibhkpkliaadoor", sum := "1eec59c480f05077cec21ec594579024ceced52cce2e692f006623f1624411cf", func := "sederunt/sederuntlaw07.SetParse", spec := "setParse", inPlace := ["internal/abi.NoEscape", "internal/bytealg.MakeNoZero"], unfollowed := true, recurses := true, named := ["math/bits.deBruijn32tab", "internal/strconv.uint64pow10", "math/bits.deBruijn64tab", "strconv.ErrSyntax", "strconv.ErrRange"], apart := false, laid := [("math/bits.deBruijn32tab", laid_math_bits_deBruijn32tab), ("math/bits.deBruijn64tab", laid_math_bits_deBruijn64tab), ("internal/strconv.uint64pow10", laid_internal_strconv_uint64pow10), ("strconv.ErrRange", laid_strconv_ErrRange), ("strconv.ErrSyntax", laid_strconv_ErrSyntax)] }
def SetParseSaid : Prop := setParseRow.holds Tryd.pinned (OpenSpec.ofChange setParseSpec)

/-- ITS FALSE NEIGHBOUR: 'it returns false'. Refute it at one input. -/
def setParseWrong : ChangeSpec := { name := "setParse", fn := fun _ => fun
  | [d] => { results := [.lit (.bool false)], args := [d] }
  | _ => none }
def SetParseWrongFalsely : Prop := setParseRow.holds Tryd.pinned (OpenSpec.ofChange setParseWrong)

/-- 'sederuntlaw07.SetOf': WHATEVER THE INPUT: true; the input reads as it did. -/
def setOfSpec : ChangeSpec := { name := "setOf", fn := fun _ => fun
  | [d] => { results := [.lit (.bool true)], args := [d] }
  | _ => none }
def setOfRow : OpenClaim := { program := "ythkboibhkpkliaadoor", sum := "1eec59c480f05077cec21ec594579024ceced52cce2e692f006623f1624411cf", func := "sederunt/sederuntlaw07.SetOf", spec := "setOf", inPlace := ["internal/abi.NoEscape", "internal/bytealg.MakeNoZero"], unfollowed := true, recurses := true, named := ["math/bits.deBruijn32tab", "internal/strconv.uint64pow10", "math/bits.deBruijn64tab"], apart := false, laid := [("math/bits.deBruijn32tab", laid_math_bits_deBruijn32tab), ("math/bits.deBruijn64tab", laid_math_bits_deBruijn64tab), ("internal/strconv.uint64pow10", laid_internal_strconv_uint64pow10)] }
def SetOfSaid : Prop := setOfRow.holds Tryd.pinned (OpenSpec.ofChange setOfSpec)

/-- ITS FALSE NEIGHBOUR: 'it returns false'. Refute it at one input. -/
def setOfWrong : ChangeSpec := { name := "setOf", fn := fun _ => fun
  | [d] => { results := [.lit (.bool false)], args := [d] }
  | _ => none }
def SetOfWrongFalsely : Prop := setOfRow.holds Tryd.pinned (OpenSpec.ofChange setOfWrong)

/- THE SECOND FORM. 'bulk': how many values and letters a reading holds, each counted each time it is reached (what is shared counts as often as it is met; a slice's spare places count too). A statement '..UptoSaid' is the law's where the arguments, and the package variables that the reading takes, are together of bulk at most 1048576: NARROWER than '..Said'. Prove '..Said' where nothing that the law and all that it calls make is longer than what came in: it says more and counts as full. Else prove '..UptoSaid'. A law counts once. -/
mutual
def uptoBulk {H : Type} : DataW H → Nat
  | .lit (.string bytes) => bytes.length + 1
  | .lit _ => 1
  | .nil => 1
  | .ptr d => uptoBulk d + 1
  | .slice elems spare => uptoBulkAll elems + uptoBulkAll spare + 1
  | .agg parts => uptoBulkAll parts + 1
  | .iface _ d => uptoBulk d + 1
  | .map entries => uptoBulkEntries entries + 1
  | .held _ => 1
def uptoBulkAll {H : Type} : List (DataW H) → Nat
  | [] => 0
  | d :: r => uptoBulk d + uptoBulkAll r
def uptoBulkEntries {H : Type} : List (Lit × DataW H) → Nat
  | [] => 0
  | x :: r => uptoBulkEntry x + uptoBulkEntries r
def uptoBulkEntry {H : Type} : Lit × DataW H → Nat
  | (.string bytes, d) => bytes.length + uptoBulk d + 1
  | (_, d) => uptoBulk d + 1
 end
def uptoSmall : (H : Type) → List (DataW H) → Bool := fun _ ds => decide (uptoBulkAll ds ≤ 1048576)
def OpenSpec.upto (s : _root_.Go.ChangeSpec) : _root_.Go.OpenSpec := { _root_.Go.OpenSpec.ofChange s with cond := some uptoSmall }

/-- 'sederuntlaw07.SetOrder', WHERE WHAT IT READS IS OF BULK AT MOST 1048576: true; the input reads as it did. -/
def setOrderUptoRow : OpenClaim := { program := "ythkboibhkpkliaadoor", sum := "1eec59c480f05077cec21ec594579024ceced52cce2e692f006623f1624411cf", func := "sederunt/sederuntlaw07.SetOrder", spec := "setOrder", inPlace := ["internal/abi.NoEscape", "internal/bytealg.MakeNoZero"], unfollowed := true, recurses := true, named := ["math/bits.deBruijn32tab", "internal/strconv.uint64pow10", "math/bits.deBruijn64tab"], apart := false, laid := [("math/bits.deBruijn32tab", laid_math_bits_deBruijn32tab), ("math/bits.deBruijn64tab", laid_math_bits_deBruijn64tab), ("internal/strconv.uint64pow10", laid_internal_strconv_uint64pow10)], narrowed := true }
def SetOrderUptoSaid : Prop := setOrderUptoRow.holds Tryd.pinned (OpenSpec.upto setOrderSpec)

/-- 'sederuntlaw07.SetSubsets', WHERE WHAT IT READS IS OF BULK AT MOST 1048576: true; the input reads as it did. -/
def setSubsetsUptoRow : OpenClaim := { program := "ythkboibhkpkliaadoor", sum := "1eec59c480f05077cec21ec594579024ceced52cce2e692f006623f1624411cf", func := "sederunt/sederuntlaw07.SetSubsets", spec := "setSubsets", inPlace := ["internal/abi.NoEscape", "internal/bytealg.MakeNoZero"], unfollowed := true, recurses := true, named := ["math/bits.deBruijn32tab", "internal/strconv.uint64pow10", "math/bits.deBruijn64tab"], apart := false, laid := [("math/bits.deBruijn32tab", laid_math_bits_deBruijn32tab), ("math/bits.deBruijn64tab", laid_math_bits_deBruijn64tab), ("internal/strconv.uint64pow10", laid_internal_strconv_uint64pow10)], narrowed := true }
def SetSubsetsUptoSaid : Prop := setSubsetsUptoRow.holds Tryd.pinned (OpenSpec.upto setSubsetsSpec)

/-- 'sederuntlaw07.SetChoose', WHERE WHAT IT READS IS OF BULK AT MOST 1048576: true; the input reads as it did. -/
def setChooseUptoRow : OpenClaim := { program := "ythkboibhkpkliaadoor", sum := "1eec59c480f05077cec21ec594579024ceced52cce2e692f006623f1624411cf", func := "sederunt/sederuntlaw07.SetChoose", spec := "setChoose", inPlace := ["internal/abi.NoEscape", "internal/bytealg.MakeNoZero"], unfollowed := true, recurses := true, named := ["math/bits.deBruijn32tab", "internal/strconv.uint64pow10", "math/bits.deBruijn64tab"], apart := false, laid := [("math/bits.deBruijn32tab", laid_math_bits_deBruijn32tab), ("math/bits.deBruijn64tab", laid_math_bits_deBruijn64tab), ("internal/strconv.uint64pow10", laid_internal_strconv_uint64pow10)], narrowed := true }
def SetChooseUptoSaid : Prop := setChooseUptoRow.holds Tryd.pinned (OpenSpec.upto setChooseSpec)

/-- 'sederuntlaw07.SetEarly', WHERE WHAT IT READS IS OF BULK AT MOST 1048576: true; the input reads as it did. -/
def setEarlyUptoRow : OpenClaim := { program := "ythkboibhkpkliaadoor", sum := "1eec59c480f05077cec21ec594579024ceced52cce2e692f006623f1624411cf", func := "sederunt/sederuntlaw07.SetEarly", spec := "setEarly", inPlace := ["internal/abi.NoEscape", "internal/bytealg.MakeNoZero"], unfollowed := true, recurses := true, named := ["math/bits.deBruijn32tab", "internal/strconv.uint64pow10", "math/bits.deBruijn64tab"], apart := false, laid := [("math/bits.deBruijn32tab", laid_math_bits_deBruijn32tab), ("math/bits.deBruijn64tab", laid_math_bits_deBruijn64tab), ("internal/strconv.uint64pow10", laid_internal_strconv_uint64pow10)], narrowed := true }
def SetEarlyUptoSaid : Prop := setEarlyUptoRow.holds Tryd.pinned (OpenSpec.upto setEarlySpec)

/-- 'sederuntlaw07.SetFull', WHERE WHAT IT READS IS OF BULK AT MOST 1048576: true; the input reads as it did. -/
def setFullUptoRow : OpenClaim := { program := "ythkboibhkpkliaadoor", sum := "1eec59c480f05077cec21ec594579024ceced52cce2e692f006623f1624411cf", func := "sederunt/sederuntlaw07.SetFull", spec := "setFull", inPlace := ["internal/abi.NoEscape", "internal/bytealg.MakeNoZero"], unfollowed := true, recurses := true, named := ["math/bits.deBruijn32tab", "internal/strconv.uint64pow10", "math/bits.deBruijn64tab"], apart := false, laid := [("math/bits.deBruijn32tab", laid_math_bits_deBruijn32tab), ("math/bits.deBruijn64tab", laid_math_bits_deBruijn64tab), ("internal/strconv.uint64pow10", laid_internal_strconv_uint64pow10)], narrowed := true }
def SetFullUptoSaid : Prop := setFullUptoRow.holds Tryd.pinned (OpenSpec.upto setFullSpec)

/-- 'sederuntlaw07.SetRename', WHERE WHAT IT READS IS OF BULK AT MOST 1048576: true; the input reads as it did. -/
def setRenameUptoRow : OpenClaim := { program := "ythkboibhkpkliaadoor", sum := "1eec59c480f05077cec21ec594579024ceced52cce2e692f006623f1624411cf", func := "sederunt/sederuntlaw07.SetRename", spec := "setRename", inPlace := ["internal/abi.NoEscape", "internal/bytealg.MakeNoZero"], unfollowed := true, recurses := true, named := ["math/bits.deBruijn32tab", "internal/strconv.uint64pow10", "math/bits.deBruijn64tab"], apart := false, laid := [("math/bits.deBruijn32tab", laid_math_bits_deBruijn32tab), ("math/bits.deBruijn64tab", laid_math_bits_deBruijn64tab), ("internal/strconv.uint64pow10", laid_internal_strconv_uint64pow10)], narrowed := true }
def SetRenameUptoSaid : Prop := setRenameUptoRow.holds Tryd.pinned (OpenSpec.upto setRenameSpec)

/-- 'sederuntlaw07.SetMembers', WHERE WHAT IT READS IS OF BULK AT MOST 1048576: true; the input reads as it did. -/
def setMembersUptoRow : OpenClaim := { program := "ythkboibhkpkliaadoor", sum := "1eec59c480f05077cec21ec594579024ceced52cce2e692f006623f1624411cf", func := "sederunt/sederuntlaw07.SetMembers", spec := "setMembers", inPlace := ["internal/abi.NoEscape", "internal/bytealg.MakeNoZero"], unfollowed := true, recurses := true, named := ["math/bits.deBruijn32tab", "internal/strconv.uint64pow10", "math/bits.deBruijn64tab"], apart := false, laid := [("math/bits.deBruijn32tab", laid_math_bits_deBruijn32tab), ("math/bits.deBruijn64tab", laid_math_bits_deBruijn64tab), ("internal/strconv.uint64pow10", laid_internal_strconv_uint64pow10)], narrowed := true }
def SetMembersUptoSaid : Prop := setMembersUptoRow.holds Tryd.pinned (OpenSpec.upto setMembersSpec)

/-- 'sederuntlaw07.SetText', WHERE WHAT IT READS IS OF BULK AT MOST 1048576: true; the input reads as it did. -/
def setTextUptoRow : OpenClaim := { program := "ythkboibhkpkliaadoor", sum := "1eec59c480f05077cec21ec594579024ceced52cce2e692f006623f1624411cf", func := "sederunt/sederuntlaw07.SetText", spec := "setText", inPlace := ["internal/abi.NoEscape", "internal/bytealg.MakeNoZero"], unfollowed := true, recurses := true, named := ["math/bits.deBruijn32tab", "internal/strconv.uint64pow10", "math/bits.deBruijn64tab", "strconv.ErrSyntax", "strconv.ErrRange"], apart := false, laid := [("math/bits.deBruijn32tab", laid_math_bits_deBruijn32tab), ("math/bits.deBruijn64tab", laid_math_bits_deBruijn64tab), ("internal/strconv.uint64pow10", laid_internal_strconv_uint64pow10), ("strconv.ErrRange", laid_strconv_ErrRange), ("strconv.ErrSyntax", laid_strconv_ErrSyntax)], narrowed := true }
def SetTextUptoSaid : Prop := setTextUptoRow.holds Tryd.pinned (OpenSpec.upto setTextSpec)

/-- 'sederuntlaw07.SetParse', WHERE WHAT IT READS IS OF BULK AT MOST 1048576: true; the input reads as it did. -/
def setParseUptoRow : OpenClaim := { program := "ythkboibhkpkliaadoor", sum := "1eec59c480f05077cec21ec594579024ceced52cce2e692f006623f1624411cf", func := "sederunt/sederuntlaw07.SetParse", spec := "setParse", inPlace := ["internal/abi.NoEscape", "internal/bytealg.MakeNoZero"], unfollowed := true, recurses := true, named := ["math/bits.deBruijn32tab", "internal/strconv.uint64pow10", "math/bits.deBruijn64tab", "strconv.ErrSyntax", "strconv.ErrRange"], apart := false, laid := [("math/bits.deBruijn32tab", laid_math_bits_deBruijn32tab), ("math/bits.deBruijn64tab", laid_math_bits_deBruijn64tab), ("internal/strconv.uint64pow10", laid_internal_strconv_uint64pow10), ("strconv.ErrRange", laid_strconv_ErrRange), ("strconv.ErrSyntax", laid_strconv_ErrSyntax)], narrowed := true }
def SetParseUptoSaid : Prop := setParseUptoRow.holds Tryd.pinned (OpenSpec.upto setParseSpec)

/-- 'sederuntlaw07.SetOf', WHERE WHAT IT READS IS OF BULK AT MOST 1048576: true; the input reads as it did. -/
def setOfUptoRow : OpenClaim := { program := "ythkboibhkpkliaadoor", sum := "1eec59c480f05077cec21ec594579024ceced52cce2e692f006623f1624411cf", func := "sederunt/sederuntlaw07.SetOf", spec := "setOf", inPlace := ["internal/abi.NoEscape", "internal/bytealg.MakeNoZero"], unfollowed := true, recurses := true, named := ["math/bits.deBruijn32tab", "internal/strconv.uint64pow10", "math/bits.deBruijn64tab"], apart := false, laid := [("math/bits.deBruijn32tab", laid_math_bits_deBruijn32tab), ("math/bits.deBruijn64tab", laid_math_bits_deBruijn64tab), ("internal/strconv.uint64pow10", laid_internal_strconv_uint64pow10)], narrowed := true }
def SetOfUptoSaid : Prop := setOfUptoRow.holds Tryd.pinned (OpenSpec.upto setOfSpec)

end Rows
end Go.Proofs.YthkboibhkpkliaaDoor
