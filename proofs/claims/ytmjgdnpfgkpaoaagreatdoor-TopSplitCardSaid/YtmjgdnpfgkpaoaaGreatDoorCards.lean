/-
  DERIVED. GIVEN WITH THE SEED: THE CARDS: each row of YtmjgdnpfgkpaoaaGreatDoorRows.lean that lists a variable, with what it lists TIED to the program's text (the seventh form; the later family's looks); each row that meets fmt, with fmt's text TOLD by the authors' own Lean function (tested against real Go, not proved from fmt's source: count such statements apart). THE CARD IS WHAT COUNTS. Prove the row's statement (the work); the ties are given (YtmjgdnpfgkpaoaaGreatDoorTie.lean); close each card by the builder's one call (the guide's Derived/Test/ToyasCard.lean, 'card_holds'). Laid BY PROGRAM, IN A SANDBOX (cutbox-door.mjs). By AI agents, Wed Nov 11 2026. No macro, syntax, notation, axiom, sorry.
-/
import Derived.Test.YtmjgdnpfgkpaoaaGreatDoorRows
import GoSem.ClaimSeven
namespace Go.Proofs.YtmjgdnpfgkpaoaaGreatDoor
namespace Rows

/-- THE TIED CARD OF 'sederunttop.TopSplit'. -/
def topSplitCard : Claim7 := { stood := { row := topSplitRow, standIns := [], harness := (true, "130a0d5074219e191cc028596b0a45899c81f7da93935e5699ad2007b83a927b"), looks := false }, kinds := [], alts := [], laidByText := true, laidKinds := [.data, .data, .data], laidTests := true, laidLooks := .later }
def TopSplitCardSaid : Prop := Claim7.holds Tryz.pinned (.plain (OpenSpec.ofChange topSplitSpec)) topSplitCard

/-- THE TIED CARD OF 'sederunttop.TopFast'. -/
def topFastCard : Claim7 := { stood := { row := topFastRow, standIns := [], harness := (true, "130a0d5074219e191cc028596b0a45899c81f7da93935e5699ad2007b83a927b"), looks := false }, kinds := [], alts := [], laidByText := true, laidKinds := [.data, .data, .data], laidTests := true, laidLooks := .later }
def TopFastCardSaid : Prop := Claim7.holds Tryz.pinned (.plain (OpenSpec.ofChange topFastSpec)) topFastCard

/-- THE TIED CARD OF 'sederunttop.TopPhases'. -/
def topPhasesCard : Claim7 := { stood := { row := topPhasesRow, standIns := [], harness := (true, "130a0d5074219e191cc028596b0a45899c81f7da93935e5699ad2007b83a927b"), looks := false }, kinds := [], alts := [], laidByText := true, laidKinds := [.data, .data, .data], laidTests := true, laidLooks := .later }
def TopPhasesCardSaid : Prop := Claim7.holds Tryz.pinned (.plain (OpenSpec.ofChange topPhasesSpec)) topPhasesCard

/-- THE SECOND FORM's CARD OF 'sederunttop.TopSplit'. -/
def topSplitUptoCard : Claim7 := { stood := { row := topSplitUptoRow, standIns := [], harness := (true, "130a0d5074219e191cc028596b0a45899c81f7da93935e5699ad2007b83a927b"), looks := false }, kinds := [], alts := [], laidByText := true, laidKinds := [.data, .data, .data], laidTests := true, laidLooks := .later }
def TopSplitUptoCardSaid : Prop := Claim7.holds Tryz.pinned (.plain (OpenSpec.upto topSplitSpec)) topSplitUptoCard

/-- THE SECOND FORM's CARD OF 'sederunttop.TopFast'. -/
def topFastUptoCard : Claim7 := { stood := { row := topFastUptoRow, standIns := [], harness := (true, "130a0d5074219e191cc028596b0a45899c81f7da93935e5699ad2007b83a927b"), looks := false }, kinds := [], alts := [], laidByText := true, laidKinds := [.data, .data, .data], laidTests := true, laidLooks := .later }
def TopFastUptoCardSaid : Prop := Claim7.holds Tryz.pinned (.plain (OpenSpec.upto topFastSpec)) topFastUptoCard

/-- THE SECOND FORM's CARD OF 'sederunttop.TopPhases'. -/
def topPhasesUptoCard : Claim7 := { stood := { row := topPhasesUptoRow, standIns := [], harness := (true, "130a0d5074219e191cc028596b0a45899c81f7da93935e5699ad2007b83a927b"), looks := false }, kinds := [], alts := [], laidByText := true, laidKinds := [.data, .data, .data], laidTests := true, laidLooks := .later }
def TopPhasesUptoCardSaid : Prop := Claim7.holds Tryz.pinned (.plain (OpenSpec.upto topPhasesSpec)) topPhasesUptoCard
end Rows
end Go.Proofs.YtmjgdnpfgkpaoaaGreatDoor
