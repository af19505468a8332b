/-
  DERIVED. GIVEN WITH THE SEED: THE CARDS: each row of YthkboibhkpkliaaDoorRows.lean that lists a variable, with what it lists TIED to the program's text (the seventh form; the later family's looks); each row that meets fmt, with fmt's text TOLD by the authors' own Lean function (tested against real Go, not proved from fmt's source: count such statements apart). THE CARD IS WHAT COUNTS. Prove the row's statement (the work); the ties are given (YthkboibhkpkliaaDoorTie.lean); close each card by the builder's one call (the guide's Derived/Test/ToyasCard.lean, 'card_holds'). Laid BY PROGRAM, IN A SANDBOX (cutbox-door.mjs). By AI agents, Wed Nov 11 2026. No macro, syntax, notation, axiom, sorry.
-/
import Derived.Test.YthkboibhkpkliaaDoorRows
import GoSem.ClaimSeven
namespace Go.Proofs.YthkboibhkpkliaaDoor
namespace Rows

/-- THE TIED CARD OF 'sederuntlaw07.SetOrder'. -/
def setOrderCard : Claim7 := { stood := { row := setOrderRow, standIns := [], harness := (true, "97d3e8c7dd0db3d1fbf3828cd81555d691733598edb49fa11b8d1e687382df77"), looks := true }, kinds := [], alts := [], laidByText := true, laidKinds := [.data, .data, .data], laidTests := true, laidLooks := .later }
def SetOrderCardSaid : Prop := Claim7.holds Tryd.pinned (.plain (OpenSpec.ofChange setOrderSpec)) setOrderCard

/-- THE TIED CARD OF 'sederuntlaw07.SetSubsets'. -/
def setSubsetsCard : Claim7 := { stood := { row := setSubsetsRow, standIns := [], harness := (true, "97d3e8c7dd0db3d1fbf3828cd81555d691733598edb49fa11b8d1e687382df77"), looks := true }, kinds := [], alts := [], laidByText := true, laidKinds := [.data, .data, .data], laidTests := true, laidLooks := .later }
def SetSubsetsCardSaid : Prop := Claim7.holds Tryd.pinned (.plain (OpenSpec.ofChange setSubsetsSpec)) setSubsetsCard

/-- THE TIED CARD OF 'sederuntlaw07.SetChoose'. -/
def setChooseCard : Claim7 := { stood := { row := setChooseRow, standIns := [], harness := (true, "97d3e8c7dd0db3d1fbf3828cd81555d691733598edb49fa11b8d1e687382df77"), looks := true }, kinds := [], alts := [], laidByText := true, laidKinds := [.data, .data, .data], laidTests := true, laidLooks := .later }
def SetChooseCardSaid : Prop := Claim7.holds Tryd.pinned (.plain (OpenSpec.ofChange setChooseSpec)) setChooseCard

/-- THE TIED CARD OF 'sederuntlaw07.SetEarly'. -/
def setEarlyCard : Claim7 := { stood := { row := setEarlyRow, standIns := [], harness := (true, "97d3e8c7dd0db3d1fbf3828cd81555d691733598edb49fa11b8d1e687382df77"), looks := true }, kinds := [], alts := [], laidByText := true, laidKinds := [.data, .data, .data], laidTests := true, laidLooks := .later }
def SetEarlyCardSaid : Prop := Claim7.holds Tryd.pinned (.plain (OpenSpec.ofChange setEarlySpec)) setEarlyCard

/-- THE TIED CARD OF 'sederuntlaw07.SetFull'. -/
def setFullCard : Claim7 := { stood := { row := setFullRow, standIns := [], harness := (true, "97d3e8c7dd0db3d1fbf3828cd81555d691733598edb49fa11b8d1e687382df77"), looks := true }, kinds := [], alts := [], laidByText := true, laidKinds := [.data, .data, .data], laidTests := true, laidLooks := .later }
def SetFullCardSaid : Prop := Claim7.holds Tryd.pinned (.plain (OpenSpec.ofChange setFullSpec)) setFullCard

/-- THE TIED CARD OF 'sederuntlaw07.SetRename'. -/
def setRenameCard : Claim7 := { stood := { row := setRenameRow, standIns := [], harness := (true, "97d3e8c7dd0db3d1fbf3828cd81555d691733598edb49fa11b8d1e687382df77"), looks := true }, kinds := [], alts := [], laidByText := true, laidKinds := [.data, .data, .data], laidTests := true, laidLooks := .later }
def SetRenameCardSaid : Prop := Claim7.holds Tryd.pinned (.plain (OpenSpec.ofChange setRenameSpec)) setRenameCard

/-- THE TIED CARD OF 'sederuntlaw07.SetMembers'. -/
def setMembersCard : Claim7 := { stood := { row := setMembersRow, standIns := [], harness := (true, "97d3e8c7dd0db3d1fbf3828cd81555d691733598edb49fa11b8d1e687382df77"), looks := true }, kinds := [], alts := [], laidByText := true, laidKinds := [.data, .data, .data], laidTests := true, laidLooks := .later }
def SetMembersCardSaid : Prop := Claim7.holds Tryd.pinned (.plain (OpenSpec.ofChange setMembersSpec)) setMembersCard

/-- THE TIED CARD OF 'sederuntlaw07.SetText'. -/
def setTextCard : Claim7 := { stood := { row := setTextRow, standIns := [], harness := (true, "97d3e8c7dd0db3d1fbf3828cd81555d691733598edb49fa11b8d1e687382df77"), looks := true }, kinds := [], alts := [], laidByText := true, laidKinds := [.data, .data, .data, .sentinel, .sentinel], laidTests := true, laidLooks := .later }
def SetTextCardSaid : Prop := Claim7.holds Tryd.pinned (.plain (OpenSpec.ofChange setTextSpec)) setTextCard

/-- THE TIED CARD OF 'sederuntlaw07.SetParse'. -/
def setParseCard : Claim7 := { stood := { row := setParseRow, standIns := [], harness := (true, "97d3e8c7dd0db3d1fbf3828cd81555d691733598edb49fa11b8d1e687382df77"), looks := true }, kinds := [], alts := [], laidByText := true, laidKinds := [.data, .data, .data, .sentinel, .sentinel], laidTests := true, laidLooks := .later }
def SetParseCardSaid : Prop := Claim7.holds Tryd.pinned (.plain (OpenSpec.ofChange setParseSpec)) setParseCard

/-- THE TIED CARD OF 'sederuntlaw07.SetOf'. -/
def setOfCard : Claim7 := { stood := { row := setOfRow, standIns := [], harness := (true, "97d3e8c7dd0db3d1fbf3828cd81555d691733598edb49fa11b8d1e687382df77"), looks := true }, kinds := [], alts := [], laidByText := true, laidKinds := [.data, .data, .data], laidTests := true, laidLooks := .later }
def SetOfCardSaid : Prop := Claim7.holds Tryd.pinned (.plain (OpenSpec.ofChange setOfSpec)) setOfCard

/-- THE SECOND FORM's CARD OF 'sederuntlaw07.SetOrder'. -/
def setOrderUptoCard : Claim7 := { stood := { row := setOrderUptoRow, standIns := [], harness := (true, "97d3e8c7dd0db3d1fbf3828cd81555d691733598edb49fa11b8d1e687382df77"), looks := true }, kinds := [], alts := [], laidByText := true, laidKinds := [.data, .data, .data], laidTests := true, laidLooks := .later }
def SetOrderUptoCardSaid : Prop := Claim7.holds Tryd.pinned (.plain (OpenSpec.upto setOrderSpec)) setOrderUptoCard

/-- THE SECOND FORM's CARD OF 'sederuntlaw07.SetSubsets'. -/
def setSubsetsUptoCard : Claim7 := { stood := { row := setSubsetsUptoRow, standIns := [], harness := (true, "97d3e8c7dd0db3d1fbf3828cd81555d691733598edb49fa11b8d1e687382df77"), looks := true }, kinds := [], alts := [], laidByText := true, laidKinds := [.data, .data, .data], laidTests := true, laidLooks := .later }
def SetSubsetsUptoCardSaid : Prop := Claim7.holds Tryd.pinned (.plain (OpenSpec.upto setSubsetsSpec)) setSubsetsUptoCard

/-- THE SECOND FORM's CARD OF 'sederuntlaw07.SetChoose'. -/
def setChooseUptoCard : Claim7 := { stood := { row := setChooseUptoRow, standIns := [], harness := (true, "97d3e8c7dd0db3d1fbf3828cd81555d691733598edb49fa11b8d1e687382df77"), looks := true }, kinds := [], alts := [], laidByText := true, laidKinds := [.data, .data, .data], laidTests := true, laidLooks := .later }
def SetChooseUptoCardSaid : Prop := Claim7.holds Tryd.pinned (.plain (OpenSpec.upto setChooseSpec)) setChooseUptoCard

/-- THE SECOND FORM's CARD OF 'sederuntlaw07.SetEarly'. -/
def setEarlyUptoCard : Claim7 := { stood := { row := setEarlyUptoRow, standIns := [], harness := (true, "97d3e8c7dd0db3d1fbf3828cd81555d691733598edb49fa11b8d1e687382df77"), looks := true }, kinds := [], alts := [], laidByText := true, laidKinds := [.data, .data, .data], laidTests := true, laidLooks := .later }
def SetEarlyUptoCardSaid : Prop := Claim7.holds Tryd.pinned (.plain (OpenSpec.upto setEarlySpec)) setEarlyUptoCard

/-- THE SECOND FORM's CARD OF 'sederuntlaw07.SetFull'. -/
def setFullUptoCard : Claim7 := { stood := { row := setFullUptoRow, standIns := [], harness := (true, "97d3e8c7dd0db3d1fbf3828cd81555d691733598edb49fa11b8d1e687382df77"), looks := true }, kinds := [], alts := [], laidByText := true, laidKinds := [.data, .data, .data], laidTests := true, laidLooks := .later }
def SetFullUptoCardSaid : Prop := Claim7.holds Tryd.pinned (.plain (OpenSpec.upto setFullSpec)) setFullUptoCard

/-- THE SECOND FORM's CARD OF 'sederuntlaw07.SetRename'. -/
def setRenameUptoCard : Claim7 := { stood := { row := setRenameUptoRow, standIns := [], harness := (true, "97d3e8c7dd0db3d1fbf3828cd81555d691733598edb49fa11b8d1e687382df77"), looks := true }, kinds := [], alts := [], laidByText := true, laidKinds := [.data, .data, .data], laidTests := true, laidLooks := .later }
def SetRenameUptoCardSaid : Prop := Claim7.holds Tryd.pinned (.plain (OpenSpec.upto setRenameSpec)) setRenameUptoCard

/-- THE SECOND FORM's CARD OF 'sederuntlaw07.SetMembers'. -/
def setMembersUptoCard : Claim7 := { stood := { row := setMembersUptoRow, standIns := [], harness := (true, "97d3e8c7dd0db3d1fbf3828cd81555d691733598edb49fa11b8d1e687382df77"), looks := true }, kinds := [], alts := [], laidByText := true, laidKinds := [.data, .data, .data], laidTests := true, laidLooks := .later }
def SetMembersUptoCardSaid : Prop := Claim7.holds Tryd.pinned (.plain (OpenSpec.upto setMembersSpec)) setMembersUptoCard

/-- THE SECOND FORM's CARD OF 'sederuntlaw07.SetText'. -/
def setTextUptoCard : Claim7 := { stood := { row := setTextUptoRow, standIns := [], harness := (true, "97d3e8c7dd0db3d1fbf3828cd81555d691733598edb49fa11b8d1e687382df77"), looks := true }, kinds := [], alts := [], laidByText := true, laidKinds := [.data, .data, .data, .sentinel, .sentinel], laidTests := true, laidLooks := .later }
def SetTextUptoCardSaid : Prop := Claim7.holds Tryd.pinned (.plain (OpenSpec.upto setTextSpec)) setTextUptoCard

/-- THE SECOND FORM's CARD OF 'sederuntlaw07.SetParse'. -/
def setParseUptoCard : Claim7 := { stood := { row := setParseUptoRow, standIns := [], harness := (true, "97d3e8c7dd0db3d1fbf3828cd81555d691733598edb49fa11b8d1e687382df77"), looks := true }, kinds := [], alts := [], laidByText := true, laidKinds := [.data, .data, .data, .sentinel, .sentinel], laidTests := true, laidLooks := .later }
def SetParseUptoCardSaid : Prop := Claim7.holds Tryd.pinned (.plain (OpenSpec.upto setParseSpec)) setParseUptoCard

/-- THE SECOND FORM's CARD OF 'sederuntlaw07.SetOf'. -/
def setOfUptoCard : Claim7 := { stood := { row := setOfUptoRow, standIns := [], harness := (true, "97d3e8c7dd0db3d1fbf3828cd81555d691733598edb49fa11b8d1e687382df77"), looks := true }, kinds := [], alts := [], laidByText := true, laidKinds := [.data, .data, .data], laidTests := true, laidLooks := .later }
def SetOfUptoCardSaid : Prop := Claim7.holds Tryd.pinned (.plain (OpenSpec.upto setOfSpec)) setOfUptoCard
end Rows
end Go.Proofs.YthkboibhkpkliaaDoor
