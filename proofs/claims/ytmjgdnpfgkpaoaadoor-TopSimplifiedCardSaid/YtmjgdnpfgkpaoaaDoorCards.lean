/-
  DERIVED. GIVEN WITH THE SEED: THE CARDS: each row of YtmjgdnpfgkpaoaaDoorRows.lean that lists a variable, with what it lists TIED to the program's text (the seventh form; the later family's looks); each row that meets fmt, with fmt's text TOLD by the authors' own Lean function (tested against real Go, not proved from fmt's source: count such statements apart). THE CARD IS WHAT COUNTS. Prove the row's statement (the work); the ties are given (YtmjgdnpfgkpaoaaDoorTie.lean); close each card by the builder's one call (the guide's Derived/Test/ToyasCard.lean, 'card_holds'). Laid BY PROGRAM, IN A SANDBOX (cutbox-door.mjs). By AI agents, Wed Nov 11 2026. No macro, syntax, notation, axiom, sorry.
-/
import Derived.Test.YtmjgdnpfgkpaoaaDoorRows
import GoSem.ClaimSeven
namespace Go.Proofs.YtmjgdnpfgkpaoaaDoor
namespace Rows

/-- THE TIED CARD OF 'sederunttop.TopSimplified'. -/
def topSimplifiedCard : Claim7 := { stood := { row := topSimplifiedRow, standIns := [], harness := (true, "da4a6f96a7e3de10e872b0c3b85c85ec218470dd60819049d7a9aed3dfc3531a"), looks := false }, kinds := [], alts := [], laidByText := true, laidKinds := [.data], laidTests := true, laidLooks := .later }
def TopSimplifiedCardSaid : Prop := Claim7.holds Tryd.pinned (.plain (OpenSpec.ofChange topSimplifiedSpec)) topSimplifiedCard

/-- THE SECOND FORM's CARD OF 'sederunttop.TopSimplified'. -/
def topSimplifiedUptoCard : Claim7 := { stood := { row := topSimplifiedUptoRow, standIns := [], harness := (true, "da4a6f96a7e3de10e872b0c3b85c85ec218470dd60819049d7a9aed3dfc3531a"), looks := false }, kinds := [], alts := [], laidByText := true, laidKinds := [.data], laidTests := true, laidLooks := .later }
def TopSimplifiedUptoCardSaid : Prop := Claim7.holds Tryd.pinned (.plain (OpenSpec.upto topSimplifiedSpec)) topSimplifiedUptoCard
end Rows
end Go.Proofs.YtmjgdnpfgkpaoaaDoor
