/-
  DERIVED. GIVEN WITH THE SEED: THE CARDS: each row of YtgfjmplifmbmlaaDoorRows.lean that lists a variable, with what it lists TIED to the program's text (the seventh form; the later family's looks); each row that meets fmt, with fmt's text TOLD by the authors' own Lean function (tested against real Go, not proved from fmt's source: count such statements apart). THE CARD IS WHAT COUNTS. Prove the row's statement (the work); the ties are given (YtgfjmplifmbmlaaDoorTie.lean); close each card by the builder's one call (the guide's Derived/Test/ToyasCard.lean, 'card_holds'). Laid BY PROGRAM, IN A SANDBOX (cutbox-door.mjs). By AI agents, Wed Nov 11 2026. No macro, syntax, notation, axiom, sorry.
-/
import Derived.Test.YtgfjmplifmbmlaaDoorRows
import GoSem.ClaimSeven
namespace Go.Proofs.YtgfjmplifmbmlaaDoor
namespace Rows

/-- THE TIED CARD OF 'sederuntlaw37.SinglePick'. -/
def singlePickCard : Claim7 := { stood := { row := singlePickRow, standIns := [], harness := (true, "ab834c786a52c2cf931b30c3099a28633376c2f016db2e20224fbb0e163ac5f5"), looks := false }, kinds := [], alts := [], laidByText := true, laidKinds := [.data, .data, .data], laidTests := true, laidLooks := .later }
def SinglePickCardSaid : Prop := Claim7.holds Tryd.pinned (.plain (OpenSpec.ofChange singlePickSpec)) singlePickCard

/-- THE TIED CARD OF 'sederuntlaw37.SingleRun'. -/
def singleRunCard : Claim7 := { stood := { row := singleRunRow, standIns := [], harness := (true, "ab834c786a52c2cf931b30c3099a28633376c2f016db2e20224fbb0e163ac5f5"), looks := false }, kinds := [], alts := [], laidByText := true, laidKinds := [.data, .data, .data], laidTests := true, laidLooks := .later }
def SingleRunCardSaid : Prop := Claim7.holds Tryd.pinned (.plain (OpenSpec.ofChange singleRunSpec)) singleRunCard

/-- THE TIED CARD OF 'sederuntlaw37.SingleErrors'. -/
def singleErrorsCard : Claim7 := { stood := { row := singleErrorsRow, standIns := [], harness := (true, "ab834c786a52c2cf931b30c3099a28633376c2f016db2e20224fbb0e163ac5f5"), looks := false }, kinds := [], alts := [], laidByText := true, laidKinds := [.data, .data, .data], laidTests := true, laidLooks := .later }
def SingleErrorsCardSaid : Prop := Claim7.holds Tryd.pinned (.plain (OpenSpec.ofChange singleErrorsSpec)) singleErrorsCard

/-- THE TIED CARD OF 'sederuntlaw37.SingleAny'. -/
def singleAnyCard : Claim7 := { stood := { row := singleAnyRow, standIns := [], harness := (true, "ab834c786a52c2cf931b30c3099a28633376c2f016db2e20224fbb0e163ac5f5"), looks := false }, kinds := [], alts := [], laidByText := true, laidKinds := [.data, .data, .data], laidTests := true, laidLooks := .later }
def SingleAnyCardSaid : Prop := Claim7.holds Tryd.pinned (.plain (OpenSpec.ofChange singleAnySpec)) singleAnyCard

/-- THE TIED CARD OF 'sederuntlaw37.SingleCheck'. -/
def singleCheckCard : Claim7 := { stood := { row := singleCheckRow, standIns := [], harness := (true, "ab834c786a52c2cf931b30c3099a28633376c2f016db2e20224fbb0e163ac5f5"), looks := false }, kinds := [], alts := [], laidByText := true, laidKinds := [.data, .data, .data], laidTests := true, laidLooks := .later }
def SingleCheckCardSaid : Prop := Claim7.holds Tryd.pinned (.plain (OpenSpec.ofChange singleCheckSpec)) singleCheckCard

/-- THE TIED CARD OF 'sederuntlaw37.SingleAttack'. -/
def singleAttackCard : Claim7 := { stood := { row := singleAttackRow, standIns := [], harness := (true, "ab834c786a52c2cf931b30c3099a28633376c2f016db2e20224fbb0e163ac5f5"), looks := false }, kinds := [], alts := [], laidByText := true, laidKinds := [.data, .data, .data], laidTests := true, laidLooks := .later }
def SingleAttackCardSaid : Prop := Claim7.holds Tryd.pinned (.plain (OpenSpec.ofChange singleAttackSpec)) singleAttackCard

/-- THE TIED CARD OF 'sederuntlaw37.SingleSafe'. -/
def singleSafeCard : Claim7 := { stood := { row := singleSafeRow, standIns := [], harness := (true, "ab834c786a52c2cf931b30c3099a28633376c2f016db2e20224fbb0e163ac5f5"), looks := false }, kinds := [], alts := [], laidByText := true, laidKinds := [.data, .data, .data], laidTests := true, laidLooks := .later }
def SingleSafeCardSaid : Prop := Claim7.holds Tryd.pinned (.plain (OpenSpec.ofChange singleSafeSpec)) singleSafeCard

/-- THE SECOND FORM's CARD OF 'sederuntlaw37.SinglePick'. -/
def singlePickUptoCard : Claim7 := { stood := { row := singlePickUptoRow, standIns := [], harness := (true, "ab834c786a52c2cf931b30c3099a28633376c2f016db2e20224fbb0e163ac5f5"), looks := false }, kinds := [], alts := [], laidByText := true, laidKinds := [.data, .data, .data], laidTests := true, laidLooks := .later }
def SinglePickUptoCardSaid : Prop := Claim7.holds Tryd.pinned (.plain (OpenSpec.upto singlePickSpec)) singlePickUptoCard

/-- THE SECOND FORM's CARD OF 'sederuntlaw37.SingleRun'. -/
def singleRunUptoCard : Claim7 := { stood := { row := singleRunUptoRow, standIns := [], harness := (true, "ab834c786a52c2cf931b30c3099a28633376c2f016db2e20224fbb0e163ac5f5"), looks := false }, kinds := [], alts := [], laidByText := true, laidKinds := [.data, .data, .data], laidTests := true, laidLooks := .later }
def SingleRunUptoCardSaid : Prop := Claim7.holds Tryd.pinned (.plain (OpenSpec.upto singleRunSpec)) singleRunUptoCard

/-- THE SECOND FORM's CARD OF 'sederuntlaw37.SingleErrors'. -/
def singleErrorsUptoCard : Claim7 := { stood := { row := singleErrorsUptoRow, standIns := [], harness := (true, "ab834c786a52c2cf931b30c3099a28633376c2f016db2e20224fbb0e163ac5f5"), looks := false }, kinds := [], alts := [], laidByText := true, laidKinds := [.data, .data, .data], laidTests := true, laidLooks := .later }
def SingleErrorsUptoCardSaid : Prop := Claim7.holds Tryd.pinned (.plain (OpenSpec.upto singleErrorsSpec)) singleErrorsUptoCard

/-- THE SECOND FORM's CARD OF 'sederuntlaw37.SingleAny'. -/
def singleAnyUptoCard : Claim7 := { stood := { row := singleAnyUptoRow, standIns := [], harness := (true, "ab834c786a52c2cf931b30c3099a28633376c2f016db2e20224fbb0e163ac5f5"), looks := false }, kinds := [], alts := [], laidByText := true, laidKinds := [.data, .data, .data], laidTests := true, laidLooks := .later }
def SingleAnyUptoCardSaid : Prop := Claim7.holds Tryd.pinned (.plain (OpenSpec.upto singleAnySpec)) singleAnyUptoCard

/-- THE SECOND FORM's CARD OF 'sederuntlaw37.SingleCheck'. -/
def singleCheckUptoCard : Claim7 := { stood := { row := singleCheckUptoRow, standIns := [], harness := (true, "ab834c786a52c2cf931b30c3099a28633376c2f016db2e20224fbb0e163ac5f5"), looks := false }, kinds := [], alts := [], laidByText := true, laidKinds := [.data, .data, .data], laidTests := true, laidLooks := .later }
def SingleCheckUptoCardSaid : Prop := Claim7.holds Tryd.pinned (.plain (OpenSpec.upto singleCheckSpec)) singleCheckUptoCard

/-- THE SECOND FORM's CARD OF 'sederuntlaw37.SingleAttack'. -/
def singleAttackUptoCard : Claim7 := { stood := { row := singleAttackUptoRow, standIns := [], harness := (true, "ab834c786a52c2cf931b30c3099a28633376c2f016db2e20224fbb0e163ac5f5"), looks := false }, kinds := [], alts := [], laidByText := true, laidKinds := [.data, .data, .data], laidTests := true, laidLooks := .later }
def SingleAttackUptoCardSaid : Prop := Claim7.holds Tryd.pinned (.plain (OpenSpec.upto singleAttackSpec)) singleAttackUptoCard

/-- THE SECOND FORM's CARD OF 'sederuntlaw37.SingleSafe'. -/
def singleSafeUptoCard : Claim7 := { stood := { row := singleSafeUptoRow, standIns := [], harness := (true, "ab834c786a52c2cf931b30c3099a28633376c2f016db2e20224fbb0e163ac5f5"), looks := false }, kinds := [], alts := [], laidByText := true, laidKinds := [.data, .data, .data], laidTests := true, laidLooks := .later }
def SingleSafeUptoCardSaid : Prop := Claim7.holds Tryd.pinned (.plain (OpenSpec.upto singleSafeSpec)) singleSafeUptoCard
end Rows
end Go.Proofs.YtgfjmplifmbmlaaDoor
