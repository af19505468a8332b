/-
  DERIVED. GIVEN WITH THE SEED: THE CARDS: each row of YtflpkkebampmfaaDoorRows.lean that lists a variable, with what it lists TIED to the program's text (the seventh form; the later family's looks); each row that meets fmt, with fmt's text TOLD by the authors' own Lean function (tested against real Go, not proved from fmt's source: count such statements apart). THE CARD IS WHAT COUNTS. Prove the row's statement (the work); the ties are given (YtflpkkebampmfaaDoorTie.lean); close each card by the builder's one call (the guide's Derived/Test/ToyasCard.lean, 'card_holds'). Laid BY PROGRAM, IN A SANDBOX (cutbox-door.mjs). By AI agents, Wed Nov 11 2026. No macro, syntax, notation, axiom, sorry.
-/
import Derived.Test.YtflpkkebampmfaaDoorRows
import GoSem.ClaimSeven
namespace Go.Proofs.YtflpkkebampmfaaDoor
namespace Rows

/-- THE TIED CARD OF 'sederuntlaw20.IntersectErrors'. -/
def intersectErrorsCard : Claim7 := { stood := { row := intersectErrorsRow, standIns := [], harness := (true, "82456eff754a0ba8493067660c8828436ba96030dfe248a32eb5876a77ba3956"), looks := true }, kinds := [], alts := [], laidByText := true, laidKinds := [.data, .data, .data, .sentinel, .sentinel], laidTests := true, laidLooks := .later }
def IntersectErrorsCardSaid : Prop := Claim7.holds Tryd.pinned (.plain (OpenSpec.ofChange intersectErrorsSpec)) intersectErrorsCard

/-- THE TIED CARD OF 'sederuntlaw20.IntersectParse'. -/
def intersectParseCard : Claim7 := { stood := { row := intersectParseRow, standIns := [], harness := (true, "82456eff754a0ba8493067660c8828436ba96030dfe248a32eb5876a77ba3956"), looks := true }, kinds := [], alts := [], laidByText := true, laidKinds := [.data, .data, .data, .sentinel, .sentinel], laidTests := true, laidLooks := .later }
def IntersectParseCardSaid : Prop := Claim7.holds Tryd.pinned (.plain (OpenSpec.ofChange intersectParseSpec)) intersectParseCard

/-- THE TIED CARD OF 'sederuntlaw20.IntersectPart'. -/
def intersectPartCard : Claim7 := { stood := { row := intersectPartRow, standIns := [], harness := (true, "82456eff754a0ba8493067660c8828436ba96030dfe248a32eb5876a77ba3956"), looks := true }, kinds := [], alts := [], laidByText := true, laidKinds := [.data, .data, .data, .sentinel, .sentinel], laidTests := true, laidLooks := .later }
def IntersectPartCardSaid : Prop := Claim7.holds Tryd.pinned (.plain (OpenSpec.ofChange intersectPartSpec)) intersectPartCard

/-- THE TIED CARD OF 'sederuntlaw20.IntersectSpoiled'. -/
def intersectSpoiledCard : Claim7 := { stood := { row := intersectSpoiledRow, standIns := [], harness := (true, "82456eff754a0ba8493067660c8828436ba96030dfe248a32eb5876a77ba3956"), looks := true }, kinds := [], alts := [], laidByText := true, laidKinds := [.data, .data, .data, .sentinel, .sentinel], laidTests := true, laidLooks := .later }
def IntersectSpoiledCardSaid : Prop := Claim7.holds Tryd.pinned (.plain (OpenSpec.ofChange intersectSpoiledSpec)) intersectSpoiledCard

/-- THE TIED CARD OF 'sederuntlaw20.IntersectFamilies'. -/
def intersectFamiliesCard : Claim7 := { stood := { row := intersectFamiliesRow, standIns := [], harness := (true, "82456eff754a0ba8493067660c8828436ba96030dfe248a32eb5876a77ba3956"), looks := true }, kinds := [], alts := [], laidByText := true, laidKinds := [.data, .data, .data, .sentinel, .sentinel], laidTests := true, laidLooks := .later }
def IntersectFamiliesCardSaid : Prop := Claim7.holds Tryd.pinned (.plain (OpenSpec.ofChange intersectFamiliesSpec)) intersectFamiliesCard

/-- THE TIED CARD OF 'sederuntlaw20.IntersectPair'. -/
def intersectPairCard : Claim7 := { stood := { row := intersectPairRow, standIns := [], harness := (true, "82456eff754a0ba8493067660c8828436ba96030dfe248a32eb5876a77ba3956"), looks := true }, kinds := [], alts := [], laidByText := true, laidKinds := [.data, .data, .data, .sentinel, .sentinel], laidTests := true, laidLooks := .later }
def IntersectPairCardSaid : Prop := Claim7.holds Tryd.pinned (.plain (OpenSpec.ofChange intersectPairSpec)) intersectPairCard

/-- THE TIED CARD OF 'sederuntlaw20.IntersectText'. -/
def intersectTextCard : Claim7 := { stood := { row := intersectTextRow, standIns := [], harness := (true, "82456eff754a0ba8493067660c8828436ba96030dfe248a32eb5876a77ba3956"), looks := true }, kinds := [], alts := [], laidByText := true, laidKinds := [.data, .data, .data, .sentinel, .sentinel], laidTests := true, laidLooks := .later }
def IntersectTextCardSaid : Prop := Claim7.holds Tryd.pinned (.plain (OpenSpec.ofChange intersectTextSpec)) intersectTextCard

/-- THE SECOND FORM's CARD OF 'sederuntlaw20.IntersectErrors'. -/
def intersectErrorsUptoCard : Claim7 := { stood := { row := intersectErrorsUptoRow, standIns := [], harness := (true, "82456eff754a0ba8493067660c8828436ba96030dfe248a32eb5876a77ba3956"), looks := true }, kinds := [], alts := [], laidByText := true, laidKinds := [.data, .data, .data, .sentinel, .sentinel], laidTests := true, laidLooks := .later }
def IntersectErrorsUptoCardSaid : Prop := Claim7.holds Tryd.pinned (.plain (OpenSpec.upto intersectErrorsSpec)) intersectErrorsUptoCard

/-- THE SECOND FORM's CARD OF 'sederuntlaw20.IntersectParse'. -/
def intersectParseUptoCard : Claim7 := { stood := { row := intersectParseUptoRow, standIns := [], harness := (true, "82456eff754a0ba8493067660c8828436ba96030dfe248a32eb5876a77ba3956"), looks := true }, kinds := [], alts := [], laidByText := true, laidKinds := [.data, .data, .data, .sentinel, .sentinel], laidTests := true, laidLooks := .later }
def IntersectParseUptoCardSaid : Prop := Claim7.holds Tryd.pinned (.plain (OpenSpec.upto intersectParseSpec)) intersectParseUptoCard

/-- THE SECOND FORM's CARD OF 'sederuntlaw20.IntersectPart'. -/
def intersectPartUptoCard : Claim7 := { stood := { row := intersectPartUptoRow, standIns := [], harness := (true, "82456eff754a0ba8493067660c8828436ba96030dfe248a32eb5876a77ba3956"), looks := true }, kinds := [], alts := [], laidByText := true, laidKinds := [.data, .data, .data, .sentinel, .sentinel], laidTests := true, laidLooks := .later }
def IntersectPartUptoCardSaid : Prop := Claim7.holds Tryd.pinned (.plain (OpenSpec.upto intersectPartSpec)) intersectPartUptoCard

/-- THE SECOND FORM's CARD OF 'sederuntlaw20.IntersectSpoiled'. -/
def intersectSpoiledUptoCard : Claim7 := { stood := { row := intersectSpoiledUptoRow, standIns := [], harness := (true, "82456eff754a0ba8493067660c8828436ba96030dfe248a32eb5876a77ba3956"), looks := true }, kinds := [], alts := [], laidByText := true, laidKinds := [.data, .data, .data, .sentinel, .sentinel], laidTests := true, laidLooks := .later }
def IntersectSpoiledUptoCardSaid : Prop := Claim7.holds Tryd.pinned (.plain (OpenSpec.upto intersectSpoiledSpec)) intersectSpoiledUptoCard

/-- THE SECOND FORM's CARD OF 'sederuntlaw20.IntersectFamilies'. -/
def intersectFamiliesUptoCard : Claim7 := { stood := { row := intersectFamiliesUptoRow, standIns := [], harness := (true, "82456eff754a0ba8493067660c8828436ba96030dfe248a32eb5876a77ba3956"), looks := true }, kinds := [], alts := [], laidByText := true, laidKinds := [.data, .data, .data, .sentinel, .sentinel], laidTests := true, laidLooks := .later }
def IntersectFamiliesUptoCardSaid : Prop := Claim7.holds Tryd.pinned (.plain (OpenSpec.upto intersectFamiliesSpec)) intersectFamiliesUptoCard

/-- THE SECOND FORM's CARD OF 'sederuntlaw20.IntersectPair'. -/
def intersectPairUptoCard : Claim7 := { stood := { row := intersectPairUptoRow, standIns := [], harness := (true, "82456eff754a0ba8493067660c8828436ba96030dfe248a32eb5876a77ba3956"), looks := true }, kinds := [], alts := [], laidByText := true, laidKinds := [.data, .data, .data, .sentinel, .sentinel], laidTests := true, laidLooks := .later }
def IntersectPairUptoCardSaid : Prop := Claim7.holds Tryd.pinned (.plain (OpenSpec.upto intersectPairSpec)) intersectPairUptoCard

/-- THE SECOND FORM's CARD OF 'sederuntlaw20.IntersectText'. -/
def intersectTextUptoCard : Claim7 := { stood := { row := intersectTextUptoRow, standIns := [], harness := (true, "82456eff754a0ba8493067660c8828436ba96030dfe248a32eb5876a77ba3956"), looks := true }, kinds := [], alts := [], laidByText := true, laidKinds := [.data, .data, .data, .sentinel, .sentinel], laidTests := true, laidLooks := .later }
def IntersectTextUptoCardSaid : Prop := Claim7.holds Tryd.pinned (.plain (OpenSpec.upto intersectTextSpec)) intersectTextUptoCard
end Rows
end Go.Proofs.YtflpkkebampmfaaDoor
