/-
  DERIVED. GIVEN WITH THE SEED: THE CARDS: each row of YtcojmmhclklpoaaGreatDoorRows.lean that lists a variable, with what it lists TIED to the program's text (the seventh form; the later family's looks); each row that meets fmt, with fmt's text TOLD by the authors' own Lean function (tested against real Go, not proved from fmt's source: count such statements apart). THE CARD IS WHAT COUNTS. Prove the row's statement (the work); the ties are given (YtcojmmhclklpoaaGreatDoorTie.lean); close each card by the builder's one call (the guide's Derived/Test/ToyasCard.lean, 'card_holds'). Laid BY PROGRAM, IN A SANDBOX (cutbox-door.mjs). By AI agents, Wed Nov 11 2026. No macro, syntax, notation, axiom, sorry.
-/
import Derived.Test.YtcojmmhclklpoaaGreatDoorRows
import GoSem.ClaimSeven
namespace Go.Proofs.YtcojmmhclklpoaaGreatDoor
namespace Rows

/-- THE TIED CARD OF 'sederuntlaw10.ExprFamily'. -/
def exprFamilyCard : Claim7 := { stood := { row := exprFamilyRow, standIns := [], harness := (true, "8fc77c67b7b83fbfffdac1da1c8dcfe2fda0d4059f874d534c277b850a564f12"), looks := true }, kinds := [], alts := [], laidByText := true, laidKinds := [.data, .data, .data, .sentinel, .sentinel], laidTests := true, laidLooks := .later }
def ExprFamilyCardSaid : Prop := Claim7.holds Tryz.pinned (.plain (OpenSpec.ofChange exprFamilySpec)) exprFamilyCard

/-- THE TIED CARD OF 'sederuntlaw10.ExprDual'. -/
def exprDualCard : Claim7 := { stood := { row := exprDualRow, standIns := [], harness := (true, "8fc77c67b7b83fbfffdac1da1c8dcfe2fda0d4059f874d534c277b850a564f12"), looks := true }, kinds := [], alts := [], laidByText := true, laidKinds := [.data, .data, .data, .sentinel, .sentinel], laidTests := true, laidLooks := .later }
def ExprDualCardSaid : Prop := Claim7.holds Tryz.pinned (.plain (OpenSpec.ofChange exprDualSpec)) exprDualCard

/-- THE TIED CARD OF 'sederuntlaw10.ExprSubstitute'. -/
def exprSubstituteCard : Claim7 := { stood := { row := exprSubstituteRow, standIns := [], harness := (true, "8fc77c67b7b83fbfffdac1da1c8dcfe2fda0d4059f874d534c277b850a564f12"), looks := true }, kinds := [], alts := [], laidByText := true, laidKinds := [.data, .data, .data, .sentinel, .sentinel], laidTests := true, laidLooks := .later }
def ExprSubstituteCardSaid : Prop := Claim7.holds Tryz.pinned (.plain (OpenSpec.ofChange exprSubstituteSpec)) exprSubstituteCard

/-- THE TIED CARD OF 'sederuntlaw10.ExprOf'. -/
def exprOfCard : Claim7 := { stood := { row := exprOfRow, standIns := [], harness := (true, "8fc77c67b7b83fbfffdac1da1c8dcfe2fda0d4059f874d534c277b850a564f12"), looks := true }, kinds := [], alts := [], laidByText := true, laidKinds := [.data, .data, .data, .sentinel, .sentinel], laidTests := true, laidLooks := .later }
def ExprOfCardSaid : Prop := Claim7.holds Tryz.pinned (.plain (OpenSpec.ofChange exprOfSpec)) exprOfCard

/-- THE TIED CARD OF 'sederuntlaw10.ExprTexts'. -/
def exprTextsCard : Claim7 := { stood := { row := exprTextsRow, standIns := [], harness := (true, "8fc77c67b7b83fbfffdac1da1c8dcfe2fda0d4059f874d534c277b850a564f12"), looks := true }, kinds := [], alts := [], laidByText := true, laidKinds := [.data, .data, .data, .sentinel, .sentinel], laidTests := true, laidLooks := .later }
def ExprTextsCardSaid : Prop := Claim7.holds Tryz.pinned (.plain (OpenSpec.ofChange exprTextsSpec)) exprTextsCard

/-- THE TIED CARD OF 'sederuntlaw10.ExprParse'. -/
def exprParseCard : Claim7 := { stood := { row := exprParseRow, standIns := [], harness := (true, "8fc77c67b7b83fbfffdac1da1c8dcfe2fda0d4059f874d534c277b850a564f12"), looks := true }, kinds := [], alts := [], laidByText := true, laidKinds := [.data, .data, .data, .sentinel, .sentinel], laidTests := true, laidLooks := .later }
def ExprParseCardSaid : Prop := Claim7.holds Tryz.pinned (.plain (OpenSpec.ofChange exprParseSpec)) exprParseCard

/-- THE TIED CARD OF 'sederuntlaw10.ExprEval'. -/
def exprEvalCard : Claim7 := { stood := { row := exprEvalRow, standIns := [], harness := (true, "8fc77c67b7b83fbfffdac1da1c8dcfe2fda0d4059f874d534c277b850a564f12"), looks := true }, kinds := [], alts := [], laidByText := true, laidKinds := [.data, .data, .data, .sentinel, .sentinel], laidTests := true, laidLooks := .later }
def ExprEvalCardSaid : Prop := Claim7.holds Tryz.pinned (.plain (OpenSpec.ofChange exprEvalSpec)) exprEvalCard

/-- THE TIED CARD OF 'sederuntlaw10.ExprSimplify'. -/
def exprSimplifyCard : Claim7 := { stood := { row := exprSimplifyRow, standIns := [], harness := (true, "8fc77c67b7b83fbfffdac1da1c8dcfe2fda0d4059f874d534c277b850a564f12"), looks := true }, kinds := [], alts := [], laidByText := true, laidKinds := [.data, .data, .data, .sentinel, .sentinel], laidTests := true, laidLooks := .later }
def ExprSimplifyCardSaid : Prop := Claim7.holds Tryz.pinned (.plain (OpenSpec.ofChange exprSimplifySpec)) exprSimplifyCard

/-- THE TIED CARD OF 'sederuntlaw10.ExprEquivalent'. -/
def exprEquivalentCard : Claim7 := { stood := { row := exprEquivalentRow, standIns := [], harness := (true, "8fc77c67b7b83fbfffdac1da1c8dcfe2fda0d4059f874d534c277b850a564f12"), looks := true }, kinds := [], alts := [], laidByText := true, laidKinds := [.data, .data, .data, .sentinel, .sentinel], laidTests := true, laidLooks := .later }
def ExprEquivalentCardSaid : Prop := Claim7.holds Tryz.pinned (.plain (OpenSpec.ofChange exprEquivalentSpec)) exprEquivalentCard

/-- THE TIED CARD OF 'sederuntlaw10.ExprValid'. -/
def exprValidCard : Claim7 := { stood := { row := exprValidRow, standIns := [], harness := (true, "8fc77c67b7b83fbfffdac1da1c8dcfe2fda0d4059f874d534c277b850a564f12"), looks := true }, kinds := [], alts := [], laidByText := true, laidKinds := [.data, .data, .data, .sentinel, .sentinel], laidTests := true, laidLooks := .later }
def ExprValidCardSaid : Prop := Claim7.holds Tryz.pinned (.plain (OpenSpec.ofChange exprValidSpec)) exprValidCard

/-- THE SECOND FORM's CARD OF 'sederuntlaw10.ExprFamily'. -/
def exprFamilyUptoCard : Claim7 := { stood := { row := exprFamilyUptoRow, standIns := [], harness := (true, "8fc77c67b7b83fbfffdac1da1c8dcfe2fda0d4059f874d534c277b850a564f12"), looks := true }, kinds := [], alts := [], laidByText := true, laidKinds := [.data, .data, .data, .sentinel, .sentinel], laidTests := true, laidLooks := .later }
def ExprFamilyUptoCardSaid : Prop := Claim7.holds Tryz.pinned (.plain (OpenSpec.upto exprFamilySpec)) exprFamilyUptoCard

/-- THE SECOND FORM's CARD OF 'sederuntlaw10.ExprDual'. -/
def exprDualUptoCard : Claim7 := { stood := { row := exprDualUptoRow, standIns := [], harness := (true, "8fc77c67b7b83fbfffdac1da1c8dcfe2fda0d4059f874d534c277b850a564f12"), looks := true }, kinds := [], alts := [], laidByText := true, laidKinds := [.data, .data, .data, .sentinel, .sentinel], laidTests := true, laidLooks := .later }
def ExprDualUptoCardSaid : Prop := Claim7.holds Tryz.pinned (.plain (OpenSpec.upto exprDualSpec)) exprDualUptoCard

/-- THE SECOND FORM's CARD OF 'sederuntlaw10.ExprSubstitute'. -/
def exprSubstituteUptoCard : Claim7 := { stood := { row := exprSubstituteUptoRow, standIns := [], harness := (true, "8fc77c67b7b83fbfffdac1da1c8dcfe2fda0d4059f874d534c277b850a564f12"), looks := true }, kinds := [], alts := [], laidByText := true, laidKinds := [.data, .data, .data, .sentinel, .sentinel], laidTests := true, laidLooks := .later }
def ExprSubstituteUptoCardSaid : Prop := Claim7.holds Tryz.pinned (.plain (OpenSpec.upto exprSubstituteSpec)) exprSubstituteUptoCard

/-- THE SECOND FORM's CARD OF 'sederuntlaw10.ExprOf'. -/
def exprOfUptoCard : Claim7 := { stood := { row := exprOfUptoRow, standIns := [], harness := (true, "8fc77c67b7b83fbfffdac1da1c8dcfe2fda0d4059f874d534c277b850a564f12"), looks := true }, kinds := [], alts := [], laidByText := true, laidKinds := [.data, .data, .data, .sentinel, .sentinel], laidTests := true, laidLooks := .later }
def ExprOfUptoCardSaid : Prop := Claim7.holds Tryz.pinned (.plain (OpenSpec.upto exprOfSpec)) exprOfUptoCard

/-- THE SECOND FORM's CARD OF 'sederuntlaw10.ExprTexts'. -/
def exprTextsUptoCard : Claim7 := { stood := { row := exprTextsUptoRow, standIns := [], harness := (true, "8fc77c67b7b83fbfffdac1da1c8dcfe2fda0d4059f874d534c277b850a564f12"), looks := true }, kinds := [], alts := [], laidByText := true, laidKinds := [.data, .data, .data, .sentinel, .sentinel], laidTests := true, laidLooks := .later }
def ExprTextsUptoCardSaid : Prop := Claim7.holds Tryz.pinned (.plain (OpenSpec.upto exprTextsSpec)) exprTextsUptoCard

/-- THE SECOND FORM's CARD OF 'sederuntlaw10.ExprParse'. -/
def exprParseUptoCard : Claim7 := { stood := { row := exprParseUptoRow, standIns := [], harness := (true, "8fc77c67b7b83fbfffdac1da1c8dcfe2fda0d4059f874d534c277b850a564f12"), looks := true }, kinds := [], alts := [], laidByText := true, laidKinds := [.data, .data, .data, .sentinel, .sentinel], laidTests := true, laidLooks := .later }
def ExprParseUptoCardSaid : Prop := Claim7.holds Tryz.pinned (.plain (OpenSpec.upto exprParseSpec)) exprParseUptoCard

/-- THE SECOND FORM's CARD OF 'sederuntlaw10.ExprEval'. -/
def exprEvalUptoCard : Claim7 := { stood := { row := exprEvalUptoRow, standIns := [], harness := (true, "8fc77c67b7b83fbfffdac1da1c8dcfe2fda0d4059f874d534c277b850a564f12"), looks := true }, kinds := [], alts := [], laidByText := true, laidKinds := [.data, .data, .data, .sentinel, .sentinel], laidTests := true, laidLooks := .later }
def ExprEvalUptoCardSaid : Prop := Claim7.holds Tryz.pinned (.plain (OpenSpec.upto exprEvalSpec)) exprEvalUptoCard

/-- THE SECOND FORM's CARD OF 'sederuntlaw10.ExprSimplify'. -/
def exprSimplifyUptoCard : Claim7 := { stood := { row := exprSimplifyUptoRow, standIns := [], harness := (true, "8fc77c67b7b83fbfffdac1da1c8dcfe2fda0d4059f874d534c277b850a564f12"), looks := true }, kinds := [], alts := [], laidByText := true, laidKinds := [.data, .data, .data, .sentinel, .sentinel], laidTests := true, laidLooks := .later }
def ExprSimplifyUptoCardSaid : Prop := Claim7.holds Tryz.pinned (.plain (OpenSpec.upto exprSimplifySpec)) exprSimplifyUptoCard

/-- THE SECOND FORM's CARD OF 'sederuntlaw10.ExprEquivalent'. -/
def exprEquivalentUptoCard : Claim7 := { stood := { row := exprEquivalentUptoRow, standIns := [], harness := (true, "8fc77c67b7b83fbfffdac1da1c8dcfe2fda0d4059f874d534c277b850a564f12"), looks := true }, kinds := [], alts := [], laidByText := true, laidKinds := [.data, .data, .data, .sentinel, .sentinel], laidTests := true, laidLooks := .later }
def ExprEquivalentUptoCardSaid : Prop := Claim7.holds Tryz.pinned (.plain (OpenSpec.upto exprEquivalentSpec)) exprEquivalentUptoCard

/-- THE SECOND FORM's CARD OF 'sederuntlaw10.ExprValid'. -/
def exprValidUptoCard : Claim7 := { stood := { row := exprValidUptoRow, standIns := [], harness := (true, "8fc77c67b7b83fbfffdac1da1c8dcfe2fda0d4059f874d534c277b850a564f12"), looks := true }, kinds := [], alts := [], laidByText := true, laidKinds := [.data, .data, .data, .sentinel, .sentinel], laidTests := true, laidLooks := .later }
def ExprValidUptoCardSaid : Prop := Claim7.holds Tryz.pinned (.plain (OpenSpec.upto exprValidSpec)) exprValidUptoCard
end Rows
end Go.Proofs.YtcojmmhclklpoaaGreatDoor
