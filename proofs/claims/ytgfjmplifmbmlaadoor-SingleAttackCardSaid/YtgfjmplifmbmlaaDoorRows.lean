/-
  NARROWER THAN 'FOR EVERY INPUT', by the rows' own cells (each row's printed sentence says how): SinglePick: laid · SingleRun: laid · SingleErrors: laid · SingleAny: laid · SingleCheck: laid · SingleAttack: laid · SingleSafe: laid.
  DERIVED. THE GIVEN ROWS OF THIS SEAT. 7 by the template 'for every input the law returns true; each argument reads behind the call as it read before'; 0 by the template 'total and deterministic' (their statements: YtgfjmplifmbmlaaDoorTotals.lean).
  GIVEN WITH THE SEED: the statements are not yours to turn. If you find one false, say at which input.
  Laid BY PROGRAM, IN A SANDBOX (cutbox-rows.mjs): the forced cells as the released guide's own fill.sh prints them over the translation 56078e08208b1228… (all of the seat's roots in one cut). By AI agents, Wed Nov 11 2026. No macro, syntax, notation, axiom, sorry.
-/
import Derived.Test.YtgfjmplifmbmlaaDoorChecked
import GoSem.Claim
import GoSem.ClaimJoined
import GoSem.ClaimMapViews
import Derived.JoinedTies
import Derived.KernelRfl
namespace Go.Proofs.YtgfjmplifmbmlaaDoor
/- THE CELL 'sum', in the pinned program and in every row, IS THE sha256 OF THE DUMP (.gsa) THAT YtgfjmplifmbmlaaDoorProg.lean LOADS. Nothing in Lean hashes anything: it is a label: what it is worth is what the hold of that sum in a sandbox is worth. -/
noncomputable def Tryd.pinned : Pinned := { name := "ytgfjmplifmbmlaadoor", sum := "56078e08208b12287adfa7b7b6f40906565756b0cd5518c01f6f43a5560b9e10", checked := Tryd.checked }
namespace Rows
def none {H : Type} : Left H := { results := [], args := [] }

/- WHAT THE LISTED PACKAGE-LEVEL VARIABLES READ AS WHEN THE CALL BEGINS. Each datum BY PROGRAM (the guide's laid-datum.mjs) off the statement by which the dump's own 'gosem.cut.vars' lays the variable. In a bare row this is a premise. The card (YtgfjmplifmbmlaaDoorCards.lean) ties it to the program's text. -/
def laid_math_bits_deBruijn32tab {H : Type} : DataW H := .agg [.lit (.int .u8 0), .lit (.int .u8 1), .lit (.int .u8 28), .lit (.int .u8 2), .lit (.int .u8 29), .lit (.int .u8 14), .lit (.int .u8 24), .lit (.int .u8 3), .lit (.int .u8 30), .lit (.int .u8 22), .lit (.int .u8 20), .lit (.int .u8 15), .lit (.int .u8 25), .lit (.int .u8 17), .lit (.int .u8 4), .lit (.int .u8 8), .lit (.int .u8 31), .lit (.int .u8 27), .lit (.int .u8 13), .lit (.int .u8 23), .lit (.int .u8 21), .lit (.int .u8 19), .lit (.int .u8 16), .lit (.int .u8 7), .lit (.int .u8 26), .lit (.int .u8 12), .lit (.int .u8 18), .lit (.int .u8 6), .lit (.int .u8 11), .lit (.int .u8 5), .lit (.int .u8 10), .lit (.int .u8 9)]
def laid_math_bits_deBruijn64tab {H : Type} : DataW H := .agg [.lit (.int .u8 0), .lit (.int .u8 1), .lit (.int .u8 56), .lit (.int .u8 2), .lit (.int .u8 57), .lit (.int .u8 49), .lit (.int .u8 28), .lit (.int .u8 3), .lit (.int .u8 61), .lit (.int .u8 58), .lit (.int .u8 42), .lit (.int .u8 50), .lit (.int .u8 38), .lit (.int .u8 29), .lit (.int .u8 17), .lit (.int .u8 4), .lit (.int .u8 62), .lit (.int .u8 47), .lit (.int .u8 59), .lit (.int .u8 36), .lit (.int .u8 45), .lit (.int .u8 43), .lit (.int .u8 51), .lit (.int .u8 22), .lit (.int .u8 53), .lit (.int .u8 39), .lit (.int .u8 33), .lit (.int .u8 30), .lit (.int .u8 24), .lit (.int .u8 18), .lit (.int .u8 12), .lit (.int .u8 5), .lit (.int .u8 63), .lit (.int .u8 55), .lit (.int .u8 48), .lit (.int .u8 27), .lit (.int .u8 60), .lit (.int .u8 41), .lit (.int .u8 37), .lit (.int .u8 16), .lit (.int .u8 46), .lit (.int .u8 35), .lit (.int .u8 44), .lit (.int .u8 21), .lit (.int .u8 52), .lit (.int .u8 32), .lit (.int .u8 23), .lit (.int .u8 11), .lit (.int .u8 54), .lit (.int .u8 26), .lit (.int .u8 40), .lit (.int .u8 15), .lit (.int .u8 34), .lit (.int .u8 20), .lit (.int .u8 31), .lit (.int .u8 10), .lit (.int .u8 25), .lit (.int .u8 14), .lit (.int .u8 19), .lit (.int .u8 9), .lit (.int .u8 13), .lit (.int .u8 8), .lit (.int .u8 7), .lit (.int .u8 6)]
def laid_internal_strconv_uint64pow10 {H : Type} : DataW H := .agg [.lit (.int .u64 1), .lit (.int .u64 10), .lit (.int .u64 100), .lit (.int .u64 1000), .lit (.int .u64 10000), .lit (.int .u64 100000), .lit (.int .u64 1000000), .lit (.int .u64 10000000), .lit (.int .u64 100000000), .lit (.int .u64 1000000000), .lit (.int .u64 10000000000), .lit (.int .u64 100000000000), .lit (.int .u64 1000000000000), .lit (.int .u64 10000000000000), .lit (.int .u64 100000000000000), .lit (.int .u64 1000000000000000), .lit (.int .u64 10000000000000000), .lit (.int .u64 100000000000000000), .lit (.int .u64 1000000000000000000), .lit (.int .u64 10000000000000000000)]

/-- 'sederuntlaw37.SinglePick': WHATEVER THE INPUT: true; the input reads as it did. -/
def singlePickSpec : ChangeSpec := { name := "singlePick", fn := fun _ => fun
  | [d1, d2, d3] => { results := [.lit (.bool true)], args := [d1, d2, d3] }
  | _ => none }
def singlePickRow : OpenClaim := { program := "ytgfjmplifmbmlaadoor", sum := "56078e08208b12287adfa7b7b6f40906565756b0cd5518c01f6f43a5560b9e10", func := "sederunt/sederuntlaw37.SinglePick", spec := "singlePick", unfollowed := true, recurses := true, named := ["math/bits.deBruijn32tab", "internal/strconv.uint64pow10", "math/bits.deBruijn64tab"], plainKeys := false, apart := false, laid := [("math/bits.deBruijn32tab", laid_math_bits_deBruijn32tab), ("math/bits.deBruijn64tab", laid_math_bits_deBruijn64tab), ("internal/strconv.uint64pow10", laid_internal_strconv_uint64pow10)] }
def SinglePickSaid : Prop := singlePickRow.holds Tryd.pinned (OpenSpec.ofChange singlePickSpec)

/-- ITS FALSE NEIGHBOUR: 'it returns false'. Refute it at one input. -/
def singlePickWrong : ChangeSpec := { name := "singlePick", fn := fun _ => fun
  | [d1, d2, d3] => { results := [.lit (.bool false)], args := [d1, d2, d3] }
  | _ => none }
def SinglePickWrongFalsely : Prop := singlePickRow.holds Tryd.pinned (OpenSpec.ofChange singlePickWrong)

/-- 'sederuntlaw37.SingleRun': WHATEVER THE INPUT: true; the input reads as it did. -/
def singleRunSpec : ChangeSpec := { name := "singleRun", fn := fun _ => fun
  | [d1, d2] => { results := [.lit (.bool true)], args := [d1, d2] }
  | _ => none }
def singleRunRow : OpenClaim := { program := "ytgfjmplifmbmlaadoor", sum := "56078e08208b12287adfa7b7b6f40906565756b0cd5518c01f6f43a5560b9e10", func := "sederunt/sederuntlaw37.SingleRun", spec := "singleRun", unfollowed := true, recurses := true, named := ["math/bits.deBruijn32tab", "internal/strconv.uint64pow10", "math/bits.deBruijn64tab"], plainKeys := false, apart := false, laid := [("math/bits.deBruijn32tab", laid_math_bits_deBruijn32tab), ("math/bits.deBruijn64tab", laid_math_bits_deBruijn64tab), ("internal/strconv.uint64pow10", laid_internal_strconv_uint64pow10)] }
def SingleRunSaid : Prop := singleRunRow.holds Tryd.pinned (OpenSpec.ofChange singleRunSpec)

/-- ITS FALSE NEIGHBOUR: 'it returns false'. Refute it at one input. -/
def singleRunWrong : ChangeSpec := { name := "singleRun", fn := fun _ => fun
  | [d1, d2] => { results := [.lit (.bool false)], args := [d1, d2] }
  | _ => none }
def SingleRunWrongFalsely : Prop := singleRunRow.holds Tryd.pinned (OpenSpec.ofChange singleRunWrong)

/-- 'sederuntlaw37.SingleErrors': WHATEVER THE INPUT: true; the input reads as it did. -/
def singleErrorsSpec : ChangeSpec := { name := "singleErrors", fn := fun _ => fun
  | [d1, d2, d3] => { results := [.lit (.bool true)], args := [d1, d2, d3] }
  | _ => none }
def singleErrorsRow : OpenClaim := { program := "ytgfjmplifmbmlaadoor", sum := "56078e08208b12287adfa7b7b6f40906565756b0cd5518c01f6f43a5560b9e10", func := "sederunt/sederuntlaw37.SingleErrors", spec := "singleErrors", unfollowed := true, recurses := true, named := ["math/bits.deBruijn32tab", "internal/strconv.uint64pow10", "math/bits.deBruijn64tab"], plainKeys := false, apart := false, laid := [("math/bits.deBruijn32tab", laid_math_bits_deBruijn32tab), ("math/bits.deBruijn64tab", laid_math_bits_deBruijn64tab), ("internal/strconv.uint64pow10", laid_internal_strconv_uint64pow10)] }
def SingleErrorsSaid : Prop := singleErrorsRow.holds Tryd.pinned (OpenSpec.ofChange singleErrorsSpec)

/-- ITS FALSE NEIGHBOUR: 'it returns false'. Refute it at one input. -/
def singleErrorsWrong : ChangeSpec := { name := "singleErrors", fn := fun _ => fun
  | [d1, d2, d3] => { results := [.lit (.bool false)], args := [d1, d2, d3] }
  | _ => none }
def SingleErrorsWrongFalsely : Prop := singleErrorsRow.holds Tryd.pinned (OpenSpec.ofChange singleErrorsWrong)

/-- 'sederuntlaw37.SingleAny': WHATEVER THE INPUT: true; the input reads as it did. -/
def singleAnySpec : ChangeSpec := { name := "singleAny", fn := fun _ => fun
  | [d1, d2] => { results := [.lit (.bool true)], args := [d1, d2] }
  | _ => none }
def singleAnyRow : OpenClaim := { program := "ytgfjmplifmbmlaadoor", sum := "56078e08208b12287adfa7b7b6f40906565756b0cd5518c01f6f43a5560b9e10", func := "sederunt/sederuntlaw37.SingleAny", spec := "singleAny", unfollowed := true, recurses := true, named := ["math/bits.deBruijn32tab", "internal/strconv.uint64pow10", "math/bits.deBruijn64tab"], plainKeys := false, apart := false, laid := [("math/bits.deBruijn32tab", laid_math_bits_deBruijn32tab), ("math/bits.deBruijn64tab", laid_math_bits_deBruijn64tab), ("internal/strconv.uint64pow10", laid_internal_strconv_uint64pow10)] }
def SingleAnySaid : Prop := singleAnyRow.holds Tryd.pinned (OpenSpec.ofChange singleAnySpec)

/-- ITS FALSE NEIGHBOUR: 'it returns false'. Refute it at one input. -/
def singleAnyWrong : ChangeSpec := { name := "singleAny", fn := fun _ => fun
  | [d1, d2] => { results := [.lit (.bool false)], args := [d1, d2] }
  | _ => none }
def SingleAnyWrongFalsely : Prop := singleAnyRow.holds Tryd.pinned (OpenSpec.ofChange singleAnyWrong)

/-- 'sederuntlaw37.SingleCheck': WHATEVER THE INPUT: true; the input reads as it did. -/
def singleCheckSpec : ChangeSpec := { name := "singleCheck", fn := fun _ => fun
  | [d1, d2] => { results := [.lit (.bool true)], args := [d1, d2] }
  | _ => none }
def singleCheckRow : OpenClaim := { program := "ytgfjmplifmbmlaadoor", sum := "56078e08208b12287adfa7b7b6f40906565756b0cd5518c01f6f43a5560b9e10", func := "sederunt/sederuntlaw37.SingleCheck", spec := "singleCheck", unfollowed := true, recurses := true, named := ["math/bits.deBruijn32tab", "internal/strconv.uint64pow10", "math/bits.deBruijn64tab"], plainKeys := false, apart := false, laid := [("math/bits.deBruijn32tab", laid_math_bits_deBruijn32tab), ("math/bits.deBruijn64tab", laid_math_bits_deBruijn64tab), ("internal/strconv.uint64pow10", laid_internal_strconv_uint64pow10)] }
def SingleCheckSaid : Prop := singleCheckRow.holds Tryd.pinned (OpenSpec.ofChange singleCheckSpec)

/-- ITS FALSE NEIGHBOUR: 'it returns false'. Refute it at one input. -/
def singleCheckWrong : ChangeSpec := { name := "singleCheck", fn := fun _ => fun
  | [d1, d2] => { results := [.lit (.bool false)], args := [d1, d2] }
  | _ => none }
def SingleCheckWrongFalsely : Prop := singleCheckRow.holds Tryd.pinned (OpenSpec.ofChange singleCheckWrong)

/-- 'sederuntlaw37.SingleAttack': WHATEVER THE INPUT: true; the input reads as it did. -/
def singleAttackSpec : ChangeSpec := { name := "singleAttack", fn := fun _ => fun
  | [d] => { results := [.lit (.bool true)], args := [d] }
  | _ => none }
def singleAttackRow : OpenClaim := { program := "ytgfjmplifmbmlaadoor", sum := "56078e08208b12287adfa7b7b6f40906565756b0cd5518c01f6f43a5560b9e10", func := "sederunt/sederuntlaw37.SingleAttack", spec := "singleAttack", unfollowed := true, recurses := true, named := ["math/bits.deBruijn32tab", "internal/strconv.uint64pow10", "math/bits.deBruijn64tab"], plainKeys := false, apart := false, laid := [("math/bits.deBruijn32tab", laid_math_bits_deBruijn32tab), ("math/bits.deBruijn64tab", laid_math_bits_deBruijn64tab), ("internal/strconv.uint64pow10", laid_internal_strconv_uint64pow10)] }
def SingleAttackSaid : Prop := singleAttackRow.holds Tryd.pinned (OpenSpec.ofChange singleAttackSpec)

/-- ITS FALSE NEIGHBOUR: 'it returns false'. Refute it at one input. -/
def singleAttackWrong : ChangeSpec := { name := "singleAttack", fn := fun _ => fun
  | [d] => { results := [.lit (.bool false)], args := [d] }
  | _ => none }
def SingleAttackWrongFalsely : Prop := singleAttackRow.holds Tryd.pinned (OpenSpec.ofChange singleAttackWrong)

/-- 'sederuntlaw37.SingleSafe': WHATEVER THE INPUT: true; the input reads as it did. -/
def singleSafeSpec : ChangeSpec := { name := "singleSafe", fn := fun _ => fun
  | [d1, d2] => { results := [.lit (.bool true)], args := [d1, d2] }
  | _ => none }
def singleSafeRow : OpenClaim := { program := "ytgfjmplifmbmlaadoor", sum := "56078e08208b12287adfa7b7b6f40906565756b0cd5518c01f6f43a5560b9e10", func := "sederunt/sederuntlaw37.SingleSafe", spec := "singleSafe", unfollowed := true, recurses := true, named := ["math/bits.deBruijn32tab", "internal/strconv.uint64pow10", "math/bits.deBruijn64tab"], plainKeys := false, apart := false, laid := [("math/bits.deBruijn32tab", laid_math_bits_deBruijn32tab), ("math/bits.deBruijn64tab", laid_math_bits_deBruijn64tab), ("internal/strconv.uint64pow10", laid_internal_strconv_uint64pow10)] }
def SingleSafeSaid : Prop := singleSafeRow.holds Tryd.pinned (OpenSpec.ofChange singleSafeSpec)

/-- ITS FALSE NEIGHBOUR: 'it returns false'. Refute it at one input. -/
def singleSafeWrong : ChangeSpec := { name := "singleSafe", fn := fun _ => fun
  | [d1, d2] => { results := [.lit (.bool false)], args := [d1, d2] }
  | _ => none }
def SingleSafeWrongFalsely : Prop := singleSafeRow.holds Tryd.pinned (OpenSpec.ofChange singleSafeWrong)

/- THE SECOND FORM. 'bulk': how many values and letters a reading holds, each counted each time it is reached (what is shared counts as often as it is met; a slice's spare places count too). A statement '..UptoSaid' is the law's where the arguments, and the package variables that the reading takes, are together of bulk at most 1048576: NARROWER than '..Said'. Prove '..Said' where nothing that the law and all that it calls make is longer than what came in: it says more and counts as full. Else prove '..UptoSaid'. A law counts once. -/
mutual
def uptoBulk {H : Type} : DataW H → Nat
  | .lit (.string bytes) => bytes.length + 1
  | .lit _ => 1
  | .nil => 1
  | .ptr d => uptoBulk d + 1
  | .slice elems spare => uptoBulkAll elems + uptoBulkAll spare + 1
  | .agg parts => uptoBulkAll parts + 1
  | .iface _ d => uptoBulk d + 1
  | .map entries => uptoBulkEntries entries + 1
  | .held _ => 1
def uptoBulkAll {H : Type} : List (DataW H) → Nat
  | [] => 0
  | d :: r => uptoBulk d + uptoBulkAll r
def uptoBulkEntries {H : Type} : List (Lit × DataW H) → Nat
  | [] => 0
  | x :: r => uptoBulkEntry x + uptoBulkEntries r
def uptoBulkEntry {H : Type} : Lit × DataW H → Nat
  | (.string bytes, d) => bytes.length + uptoBulk d + 1
  | (_, d) => uptoBulk d + 1
 end
def uptoSmall : (H : Type) → List (DataW H) → Bool := fun _ ds => decide (uptoBulkAll ds ≤ 1048576)
def OpenSpec.upto (s : _root_.Go.ChangeSpec) : _root_.Go.OpenSpec := { _root_.Go.OpenSpec.ofChange s with cond := some uptoSmall }

/-- 'sederuntlaw37.SinglePick', WHERE WHAT IT READS IS OF BULK AT MOST 1048576: true; the input reads as it did. -/
def singlePickUptoRow : OpenClaim := { program := "ytgfjmplifmbmlaadoor", sum := "56078e08208b12287adfa7b7b6f40906565756b0cd5518c01f6f43a5560b9e10", func := "sederunt/sederuntlaw37.SinglePick", spec := "singlePick", unfollowed := true, recurses := true, named := ["math/bits.deBruijn32tab", "internal/strconv.uint64pow10", "math/bits.deBruijn64tab"], plainKeys := false, apart := false, laid := [("math/bits.deBruijn32tab", laid_math_bits_deBruijn32tab), ("math/bits.deBruijn64tab", laid_math_bits_deBruijn64tab), ("internal/strconv.uint64pow10", laid_internal_strconv_uint64pow10)], narrowed := true }
def SinglePickUptoSaid : Prop := singlePickUptoRow.holds Tryd.pinned (OpenSpec.upto singlePickSpec)

/-- 'sederuntlaw37.SingleRun', WHERE WHAT IT READS IS OF BULK AT MOST 1048576: true; the input reads as it did. -/
def singleRunUptoRow : OpenClaim := { program := "ytgfjmplifmbmlaadoor", sum := "56078e08208b12287adfa7b7b6f40906565756b0cd5518c01f6f43a5560b9e10", func := "sederunt/sederuntlaw37.SingleRun", spec := "singleRun", unfollowed := true, recurses := true, named := ["math/bits.deBruijn32tab", "internal/strconv.uint64pow10", "math/bits.deBruijn64tab"], plainKeys := false, apart := false, laid := [("math/bits.deBruijn32tab", laid_math_bits_deBruijn32tab), ("math/bits.deBruijn64tab", laid_math_bits_deBruijn64tab), ("internal/strconv.uint64pow10", laid_internal_strconv_uint64pow10)], narrowed := true }
def SingleRunUptoSaid : Prop := singleRunUptoRow.holds Tryd.pinned (OpenSpec.upto singleRunSpec)

/-- 'sederuntlaw37.SingleErrors', WHERE WHAT IT READS IS OF BULK AT MOST 1048576: true; the input reads as it did. -/
def singleErrorsUptoRow : OpenClaim := { program := "ytgfjmplifmbmlaadoor", sum := "56078e08208b12287adfa7b7b6f40906565756b0cd5518c01f6f43a5560b9e10", func := "sederunt/sederuntlaw37.SingleErrors", spec := "singleErrors", unfollowed := true, recurses := true, named := ["math/bits.deBruijn32tab", "internal/strconv.uint64pow10", "math/bits.deBruijn64tab"], plainKeys := false, apart := false, laid := [("math/bits.deBruijn32tab", laid_math_bits_deBruijn32tab), ("math/bits.deBruijn64tab", laid_math_bits_deBruijn64tab), ("internal/strconv.uint64pow10", laid_internal_strconv_uint64pow10)], narrowed := true }
def SingleErrorsUptoSaid : Prop := singleErrorsUptoRow.holds Tryd.pinned (OpenSpec.upto singleErrorsSpec)

/-- 'sederuntlaw37.SingleAny', WHERE WHAT IT READS IS OF BULK AT MOST 1048576: true; the input reads as it did. -/
def singleAnyUptoRow : OpenClaim := { program := "ytgfjmplifmbmlaadoor", sum := "56078e08208b12287adfa7b7b6f40906565756b0cd5518c01f6f43a5560b9e10", func := "sederunt/sederuntlaw37.SingleAny", spec := "singleAny", unfollowed := true, recurses := true, named := ["math/bits.deBruijn32tab", "internal/strconv.uint64pow10", "math/bits.deBruijn64tab"], plainKeys := false, apart := false, laid := [("math/bits.deBruijn32tab", laid_math_bits_deBruijn32tab), ("math/bits.deBruijn64tab", laid_math_bits_deBruijn64tab), ("internal/strconv.uint64pow10", laid_internal_strconv_uint64pow10)], narrowed := true }
def SingleAnyUptoSaid : Prop := singleAnyUptoRow.holds Tryd.pinned (OpenSpec.upto singleAnySpec)

/-- 'sederuntlaw37.SingleCheck', WHERE WHAT IT READS IS OF BULK AT MOST 1048576: true; the input reads as it did. -/
def singleCheckUptoRow : OpenClaim := { program := "ytgfjmplifmbmlaadoor", sum := "56078e08208b12287adfa7b7b6f40906565756b0cd5518c01f6f43a5560b9e10", func := "sederunt/sederuntlaw37.SingleCheck", spec := "singleCheck", unfollowed := true, recurses := true, named := ["math/bits.deBruijn32tab", "internal/strconv.uint64pow10", "math/bits.deBruijn64tab"], plainKeys := false, apart := false, laid := [("math/bits.deBruijn32tab", laid_math_bits_deBruijn32tab), ("math/bits.deBruijn64tab", laid_math_bits_deBruijn64tab), ("internal/strconv.uint64pow10", laid_internal_strconv_uint64pow10)], narrowed := true }
def SingleCheckUptoSaid : Prop := singleCheckUptoRow.holds Tryd.pinned (OpenSpec.upto singleCheckSpec)

/-- 'sederuntlaw37.SingleAttack', WHERE WHAT IT READS IS OF BULK AT MOST 1048576: true; the input reads as it did. -/
def singleAttackUptoRow : OpenClaim := { program := "ytgfjmplifmbmlaadoor", sum := "56078e08208b12287adfa7b7b6f40906565756b0cd5518c01f6f43a5560b9e10", func := "sederunt/sederuntlaw37.SingleAttack", spec := "singleAttack", unfollowed := true, recurses := true, named := ["math/bits.deBruijn32tab", "internal/strconv.uint64pow10", "math/bits.deBruijn64tab"], plainKeys := false, apart := false, laid := [("math/bits.deBruijn32tab", laid_math_bits_deBruijn32tab), ("math/bits.deBruijn64tab", laid_math_bits_deBruijn64tab), ("internal/strconv.uint64pow10", laid_internal_strconv_uint64pow10)], narrowed := true }
def SingleAttackUptoSaid : Prop := singleAttackUptoRow.holds Tryd.pinned (OpenSpec.upto singleAttackSpec)

/-- 'sederuntlaw37.SingleSafe', WHERE WHAT IT READS IS OF BULK AT MOST 1048576: true; the input reads as it did. -/
def singleSafeUptoRow : OpenClaim := { program := "ytgfjmplifmbmlaadoor", sum := "56078e08208b12287adfa7b7b6f40906565756b0cd5518c01f6f43a5560b9e10", func := "sederunt/sederuntlaw37.SingleSafe", spec := "singleSafe", unfollowed := true, recurses := true, named := ["math/bits.deBruijn32tab", "internal/strconv.uint64pow10", "math/bits.deBruijn64tab"], plainKeys := false, apart := false, laid := [("math/bits.deBruijn32tab", laid_math_bits_deBruijn32tab), ("math/bits.deBruijn64tab", laid_math_bits_deBruijn64tab), ("internal/strconv.uint64pow10", laid_internal_strconv_uint64pow10)], narrowed := true }
def SingleSafeUptoSaid : Prop := singleSafeUptoRow.holds Tryd.pinned (OpenSpec.upto singleSafeSpec)

end Rows
end Go.Proofs.YtgfjmplifmbmlaaDoor
