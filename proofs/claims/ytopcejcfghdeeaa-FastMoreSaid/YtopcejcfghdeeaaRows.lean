/-
  No cell of these rows narrows 'for every input' (looked for: loops, veiled, ifaces, maps, wideKeys, modest, calm, conditions, laid).
  DERIVED. THE GIVEN ROWS OF THIS SEAT. 8 by the template 'for every input the law returns true; each argument reads behind the call as it read before'; 0 by the template 'total and deterministic' (their statements: YtopcejcfghdeeaaTotals.lean).
  GIVEN WITH THE SEED: the statements are not yours to turn. If you find one false, say at which input.
  Laid BY PROGRAM, IN A SANDBOX (cutbox-rows.mjs): the forced cells as the released guide's own fill.sh prints them over the translation 7a0a2813066d8f15… (all of the seat's roots in one cut). By AI agents, Wed Nov 11 2026. No macro, syntax, notation, axiom, sorry.
-/
import Derived.Test.YtopcejcfghdeeaaChecked
import GoSem.Claim
import GoSem.ClaimJoined
import GoSem.ClaimMapViews
import Derived.JoinedTies
import Derived.KernelRfl
namespace Go.Proofs.Ytopcejcfghdeeaa
/- THE CELL 'sum', in the pinned program and in every row, IS THE sha256 OF THE DUMP (.gsa) THAT YtopcejcfghdeeaaProg.lean LOADS. Nothing in Lean hashes anything: it is a label: what it is worth is what the hold of that sum in a sandbox is worth. -/
noncomputable def Try.pinned : Pinned := { name := "ytopcejcfghdeeaa", sum := "7a0a2813066d8f1589ecbadec566372fd8aafcb37dfd53bc4350858ee12323ff", checked := Try.checked }
namespace Rows
def none {H : Type} : Left H := { results := [], args := [] }

/-- 'sederuntlaw38.FastClash': WHATEVER THE INPUT: true; the input reads as it did. -/
def fastClashSpec : ChangeSpec := { name := "fastClash", fn := fun _ => fun
  | [d1, d2] => { results := [.lit (.bool true)], args := [d1, d2] }
  | _ => none }
def fastClashRow : OpenClaim := { program := "ytopcejcfghdeeaa", sum := "7a0a2813066d8f1589ecbadec566372fd8aafcb37dfd53bc4350858ee12323ff", func := "sederunt/sederuntlaw38.FastClash", spec := "fastClash", unfollowed := true, recurses := true, apart := false }
def FastClashSaid : Prop := fastClashRow.holds Try.pinned (OpenSpec.ofChange fastClashSpec)

/-- ITS FALSE NEIGHBOUR: 'it returns false'. Refute it at one input. -/
def fastClashWrong : ChangeSpec := { name := "fastClash", fn := fun _ => fun
  | [d1, d2] => { results := [.lit (.bool false)], args := [d1, d2] }
  | _ => none }
def FastClashWrongFalsely : Prop := fastClashRow.holds Try.pinned (OpenSpec.ofChange fastClashWrong)

/-- 'sederuntlaw38.FastChosen': WHATEVER THE INPUT: true; the input reads as it did. -/
def fastChosenSpec : ChangeSpec := { name := "fastChosen", fn := fun _ => fun
  | [d1, d2] => { results := [.lit (.bool true)], args := [d1, d2] }
  | _ => none }
def fastChosenRow : OpenClaim := { program := "ytopcejcfghdeeaa", sum := "7a0a2813066d8f1589ecbadec566372fd8aafcb37dfd53bc4350858ee12323ff", func := "sederunt/sederuntlaw38.FastChosen", spec := "fastChosen", unfollowed := true, recurses := true, apart := false }
def FastChosenSaid : Prop := fastChosenRow.holds Try.pinned (OpenSpec.ofChange fastChosenSpec)

/-- ITS FALSE NEIGHBOUR: 'it returns false'. Refute it at one input. -/
def fastChosenWrong : ChangeSpec := { name := "fastChosen", fn := fun _ => fun
  | [d1, d2] => { results := [.lit (.bool false)], args := [d1, d2] }
  | _ => none }
def FastChosenWrongFalsely : Prop := fastChosenRow.holds Try.pinned (OpenSpec.ofChange fastChosenWrong)

/-- 'sederuntlaw38.FastPossible': WHATEVER THE INPUT: true; the input reads as it did. -/
def fastPossibleSpec : ChangeSpec := { name := "fastPossible", fn := fun _ => fun
  | [d1, d2, d3] => { results := [.lit (.bool true)], args := [d1, d2, d3] }
  | _ => none }
def fastPossibleRow : OpenClaim := { program := "ytopcejcfghdeeaa", sum := "7a0a2813066d8f1589ecbadec566372fd8aafcb37dfd53bc4350858ee12323ff", func := "sederunt/sederuntlaw38.FastPossible", spec := "fastPossible", unfollowed := true, recurses := true, apart := false }
def FastPossibleSaid : Prop := fastPossibleRow.holds Try.pinned (OpenSpec.ofChange fastPossibleSpec)

/-- ITS FALSE NEIGHBOUR: 'it returns false'. Refute it at one input. -/
def fastPossibleWrong : ChangeSpec := { name := "fastPossible", fn := fun _ => fun
  | [d1, d2, d3] => { results := [.lit (.bool false)], args := [d1, d2, d3] }
  | _ => none }
def FastPossibleWrongFalsely : Prop := fastPossibleRow.holds Try.pinned (OpenSpec.ofChange fastPossibleWrong)

/-- 'sederuntlaw38.FastFound': WHATEVER THE INPUT: true; the input reads as it did. -/
def fastFoundSpec : ChangeSpec := { name := "fastFound", fn := fun _ => fun
  | [d1, d2, d3] => { results := [.lit (.bool true)], args := [d1, d2, d3] }
  | _ => none }
def fastFoundRow : OpenClaim := { program := "ytopcejcfghdeeaa", sum := "7a0a2813066d8f1589ecbadec566372fd8aafcb37dfd53bc4350858ee12323ff", func := "sederunt/sederuntlaw38.FastFound", spec := "fastFound", unfollowed := true, recurses := true, apart := false }
def FastFoundSaid : Prop := fastFoundRow.holds Try.pinned (OpenSpec.ofChange fastFoundSpec)

/-- ITS FALSE NEIGHBOUR: 'it returns false'. Refute it at one input. -/
def fastFoundWrong : ChangeSpec := { name := "fastFound", fn := fun _ => fun
  | [d1, d2, d3] => { results := [.lit (.bool false)], args := [d1, d2, d3] }
  | _ => none }
def FastFoundWrongFalsely : Prop := fastFoundRow.holds Try.pinned (OpenSpec.ofChange fastFoundWrong)

/-- 'sederuntlaw38.FastAttack': WHATEVER THE INPUT: true; the input reads as it did. -/
def fastAttackSpec : ChangeSpec := { name := "fastAttack", fn := fun _ => fun
  | [d1, d2, d3] => { results := [.lit (.bool true)], args := [d1, d2, d3] }
  | _ => none }
def fastAttackRow : OpenClaim := { program := "ytopcejcfghdeeaa", sum := "7a0a2813066d8f1589ecbadec566372fd8aafcb37dfd53bc4350858ee12323ff", func := "sederunt/sederuntlaw38.FastAttack", spec := "fastAttack", unfollowed := true, recurses := true, apart := false }
def FastAttackSaid : Prop := fastAttackRow.holds Try.pinned (OpenSpec.ofChange fastAttackSpec)

/-- ITS FALSE NEIGHBOUR: 'it returns false'. Refute it at one input. -/
def fastAttackWrong : ChangeSpec := { name := "fastAttack", fn := fun _ => fun
  | [d1, d2, d3] => { results := [.lit (.bool false)], args := [d1, d2, d3] }
  | _ => none }
def FastAttackWrongFalsely : Prop := fastAttackRow.holds Try.pinned (OpenSpec.ofChange fastAttackWrong)

/-- 'sederuntlaw38.FastMore': WHATEVER THE INPUT: true; the input reads as it did. -/
def fastMoreSpec : ChangeSpec := { name := "fastMore", fn := fun _ => fun
  | [d1, d2, d3] => { results := [.lit (.bool true)], args := [d1, d2, d3] }
  | _ => none }
def fastMoreRow : OpenClaim := { program := "ytopcejcfghdeeaa", sum := "7a0a2813066d8f1589ecbadec566372fd8aafcb37dfd53bc4350858ee12323ff", func := "sederunt/sederuntlaw38.FastMore", spec := "fastMore", unfollowed := true, recurses := true, apart := false }
def FastMoreSaid : Prop := fastMoreRow.holds Try.pinned (OpenSpec.ofChange fastMoreSpec)

/-- ITS FALSE NEIGHBOUR: 'it returns false'. Refute it at one input. -/
def fastMoreWrong : ChangeSpec := { name := "fastMore", fn := fun _ => fun
  | [d1, d2, d3] => { results := [.lit (.bool false)], args := [d1, d2, d3] }
  | _ => none }
def FastMoreWrongFalsely : Prop := fastMoreRow.holds Try.pinned (OpenSpec.ofChange fastMoreWrong)

/-- 'sederuntlaw38.FastLeast': WHATEVER THE INPUT: true; the input reads as it did. -/
def fastLeastSpec : ChangeSpec := { name := "fastLeast", fn := fun _ => fun
  | [d1, d2] => { results := [.lit (.bool true)], args := [d1, d2] }
  | _ => none }
def fastLeastRow : OpenClaim := { program := "ytopcejcfghdeeaa", sum := "7a0a2813066d8f1589ecbadec566372fd8aafcb37dfd53bc4350858ee12323ff", func := "sederunt/sederuntlaw38.FastLeast", spec := "fastLeast", unfollowed := true, recurses := true, apart := false }
def FastLeastSaid : Prop := fastLeastRow.holds Try.pinned (OpenSpec.ofChange fastLeastSpec)

/-- ITS FALSE NEIGHBOUR: 'it returns false'. Refute it at one input. -/
def fastLeastWrong : ChangeSpec := { name := "fastLeast", fn := fun _ => fun
  | [d1, d2] => { results := [.lit (.bool false)], args := [d1, d2] }
  | _ => none }
def FastLeastWrongFalsely : Prop := fastLeastRow.holds Try.pinned (OpenSpec.ofChange fastLeastWrong)

/-- 'sederuntlaw38.FastErrors': WHATEVER THE INPUT: true; the input reads as it did. -/
def fastErrorsSpec : ChangeSpec := { name := "fastErrors", fn := fun _ => fun
  | [d1, d2, d3] => { results := [.lit (.bool true)], args := [d1, d2, d3] }
  | _ => none }
def fastErrorsRow : OpenClaim := { program := "ytopcejcfghdeeaa", sum := "7a0a2813066d8f1589ecbadec566372fd8aafcb37dfd53bc4350858ee12323ff", func := "sederunt/sederuntlaw38.FastErrors", spec := "fastErrors", unfollowed := true, recurses := true, apart := false }
def FastErrorsSaid : Prop := fastErrorsRow.holds Try.pinned (OpenSpec.ofChange fastErrorsSpec)

/-- ITS FALSE NEIGHBOUR: 'it returns false'. Refute it at one input. -/
def fastErrorsWrong : ChangeSpec := { name := "fastErrors", fn := fun _ => fun
  | [d1, d2, d3] => { results := [.lit (.bool false)], args := [d1, d2, d3] }
  | _ => none }
def FastErrorsWrongFalsely : Prop := fastErrorsRow.holds Try.pinned (OpenSpec.ofChange fastErrorsWrong)

/- THE SECOND FORM. 'bulk': how many values and letters a reading holds, each counted each time it is reached (what is shared counts as often as it is met; a slice's spare places count too). A statement '..UptoSaid' is the law's where the arguments, and the package variables that the reading takes, are together of bulk at most 1048576: NARROWER than '..Said'. Prove '..Said' where nothing that the law and all that it calls make is longer than what came in: it says more and counts as full. Else prove '..UptoSaid'. A law counts once. -/
mutual
def uptoBulk {H : Type} : DataW H → Nat
  | .lit (.string bytes) => bytes.length + 1
  | .lit _ => 1
  | .nil => 1
  | .ptr d => uptoBulk d + 1
  | .slice elems spare => uptoBulkAll elems + uptoBulkAll spare + 1
  | .agg parts => uptoBulkAll parts + 1
  | .iface _ d => uptoBulk d + 1
  | .map entries => uptoBulkEntries entries + 1
  | .held _ => 1
def uptoBulkAll {H : Type} : List (DataW H) → Nat
  | [] => 0
  | d :: r => uptoBulk d + uptoBulkAll r
def uptoBulkEntries {H : Type} : List (Lit × DataW H) → Nat
  | [] => 0
  | x :: r => uptoBulkEntry x + uptoBulkEntries r
def uptoBulkEntry {H : Type} : Lit × DataW H → Nat
  | (.string bytes, d) => bytes.length + uptoBulk d + 1
  | (_, d) => uptoBulk d + 1
 end
def uptoSmall : (H : Type) → List (DataW H) → Bool := fun _ ds => decide (uptoBulkAll ds ≤ 1048576)
def OpenSpec.upto (s : _root_.Go.ChangeSpec) : _root_.Go.OpenSpec := { _root_.Go.OpenSpec.ofChange s with cond := some uptoSmall }

/-- 'sederuntlaw38.FastClash', WHERE WHAT IT READS IS OF BULK AT MOST 1048576: true; the input reads as it did. -/
def fastClashUptoRow : OpenClaim := { program := "ytopcejcfghdeeaa", sum := "7a0a2813066d8f1589ecbadec566372fd8aafcb37dfd53bc4350858ee12323ff", func := "sederunt/sederuntlaw38.FastClash", spec := "fastClash", unfollowed := true, recurses := true, apart := false, narrowed := true }
def FastClashUptoSaid : Prop := fastClashUptoRow.holds Try.pinned (OpenSpec.upto fastClashSpec)

/-- 'sederuntlaw38.FastChosen', WHERE WHAT IT READS IS OF BULK AT MOST 1048576: true; the input reads as it did. -/
def fastChosenUptoRow : OpenClaim := { program := "ytopcejcfghdeeaa", sum := "7a0a2813066d8f1589ecbadec566372fd8aafcb37dfd53bc4350858ee12323ff", func := "sederunt/sederuntlaw38.FastChosen", spec := "fastChosen", unfollowed := true, recurses := true, apart := false, narrowed := true }
def FastChosenUptoSaid : Prop := fastChosenUptoRow.holds Try.pinned (OpenSpec.upto fastChosenSpec)

/-- 'sederuntlaw38.FastPossible', WHERE WHAT IT READS IS OF BULK AT MOST 1048576: true; the input reads as it did. -/
def fastPossibleUptoRow : OpenClaim := { program := "ytopcejcfghdeeaa", sum := "7a0a2813066d8f1589ecbadec566372fd8aafcb37dfd53bc4350858ee12323ff", func := "sederunt/sederuntlaw38.FastPossible", spec := "fastPossible", unfollowed := true, recurses := true, apart := false, narrowed := true }
def FastPossibleUptoSaid : Prop := fastPossibleUptoRow.holds Try.pinned (OpenSpec.upto fastPossibleSpec)

/-- 'sederuntlaw38.FastFound', WHERE WHAT IT READS IS OF BULK AT MOST 1048576: true; the input reads as it did. -/
def fastFoundUptoRow : OpenClaim := { program := "ytopcejcfghdeeaa", sum := "7a0a2813066d8f1589ecbadec566372fd8aafcb37dfd53bc4350858ee12323ff", func := "sederunt/sederuntlaw38.FastFound", spec := "fastFound", unfollowed := true, recurses := true, apart := false, narrowed := true }
def FastFoundUptoSaid : Prop := fastFoundUptoRow.holds Try.pinned (OpenSpec.upto fastFoundSpec)

/-- 'sederuntlaw38.FastAttack', WHERE WHAT IT READS IS OF BULK AT MOST 1048576: true; the input reads as it did. -/
def fastAttackUptoRow : OpenClaim := { program := "ytopcejcfghdeeaa", sum := "7a0a2813066d8f1589ecbadec566372fd8aafcb37dfd53bc4350858ee12323ff", func := "sederunt/sederuntlaw38.FastAttack", spec := "fastAttack", unfollowed := true, recurses := true, apart := false, narrowed := true }
def FastAttackUptoSaid : Prop := fastAttackUptoRow.holds Try.pinned (OpenSpec.upto fastAttackSpec)

/-- 'sederuntlaw38.FastMore', WHERE WHAT IT READS IS OF BULK AT MOST 1048576: true; the input reads as it did. -/
def fastMoreUptoRow : OpenClaim := { program := "ytopcejcfghdeeaa", sum := "7a0a2813066d8f1589ecbadec566372fd8aafcb37dfd53bc4350858ee12323ff", func := "sederunt/sederuntlaw38.FastMore", spec := "fastMore", unfollowed := true, recurses := true, apart := false, narrowed := true }
def FastMoreUptoSaid : Prop := fastMoreUptoRow.holds Try.pinned (OpenSpec.upto fastMoreSpec)

/-- 'sederuntlaw38.FastLeast', WHERE WHAT IT READS IS OF BULK AT MOST 1048576: true; the input reads as it did. -/
def fastLeastUptoRow : OpenClaim := { program := "ytopcejcfghdeeaa", sum := "7a0a2813066d8f1589ecbadec566372fd8aafcb37dfd53bc4350858ee12323ff", func := "sederunt/sederuntlaw38.FastLeast", spec := "fastLeast", unfollowed := true, recurses := true, apart := false, narrowed := true }
def FastLeastUptoSaid : Prop := fastLeastUptoRow.holds Try.pinned (OpenSpec.upto fastLeastSpec)

/-- 'sederuntlaw38.FastErrors', WHERE WHAT IT READS IS OF BULK AT MOST 1048576: true; the input reads as it did. -/
def fastErrorsUptoRow : OpenClaim := { program := "ytopcejcfghdeeaa", sum := "7a0a2813066d8f1589ecbadec566372fd8aafcb37dfd53bc4350858ee12323ff", func := "sederunt/sederuntlaw38.FastErrors", spec := "fastErrors", unfollowed := true, recurses := true, apart := false, narrowed := true }
def FastErrorsUptoSaid : Prop := fastErrorsUptoRow.holds Try.pinned (OpenSpec.upto fastErrorsSpec)

end Rows
end Go.Proofs.Ytopcejcfghdeeaa
