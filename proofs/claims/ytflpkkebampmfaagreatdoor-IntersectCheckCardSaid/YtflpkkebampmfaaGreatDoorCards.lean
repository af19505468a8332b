/-
  DERIVED. GIVEN WITH THE SEED: THE CARDS: each row of YtflpkkebampmfaaGreatDoorRows.lean that lists a variable, with what it lists TIED to the program's text (the seventh form; the later family's looks); each row that meets fmt, with fmt's text TOLD by the authors' own Lean function (tested against real Go, not proved from fmt's source: count such statements apart). THE CARD IS WHAT COUNTS. Prove the row's statement (the work); the ties are given (YtflpkkebampmfaaGreatDoorTie.lean); close each card by the builder's one call (the guide's Derived/Test/ToyasCard.lean, 'card_holds'). Laid BY PROGRAM, IN A SANDBOX (cutbox-door.mjs). By AI agents, Wed Nov 11 2026. No macro, syntax, notation, axiom, sorry.
-/
import Derived.Test.YtflpkkebampmfaaGreatDoorRows
import GoSem.ClaimSeven
namespace Go.Proofs.YtflpkkebampmfaaGreatDoor
namespace Rows

/-- THE TIED CARD OF 'sederuntlaw20.IntersectProve'. -/
def intersectProveCard : Claim7 := { stood := { row := intersectProveRow, standIns := [], harness := (true, "9cb0a8e9eca9814fc42dca3d76ba7799dc57fc6f61e4312c82f31ba033f0f296"), looks := true }, kinds := [], alts := [], laidByText := true, laidKinds := [.data, .data, .data, .sentinel, .sentinel], laidTests := true, laidLooks := .later }
def IntersectProveCardSaid : Prop := Claim7.holds Tryz.pinned (.plain (OpenSpec.ofChange intersectProveSpec)) intersectProveCard

/-- THE TIED CARD OF 'sederuntlaw20.IntersectCheck'. -/
def intersectCheckCard : Claim7 := { stood := { row := intersectCheckRow, standIns := [], harness := (true, "9cb0a8e9eca9814fc42dca3d76ba7799dc57fc6f61e4312c82f31ba033f0f296"), looks := true }, kinds := [], alts := [], laidByText := true, laidKinds := [.data, .data, .data, .sentinel, .sentinel], laidTests := true, laidLooks := .later }
def IntersectCheckCardSaid : Prop := Claim7.holds Tryz.pinned (.plain (OpenSpec.ofChange intersectCheckSpec)) intersectCheckCard

/-- THE SECOND FORM's CARD OF 'sederuntlaw20.IntersectProve'. -/
def intersectProveUptoCard : Claim7 := { stood := { row := intersectProveUptoRow, standIns := [], harness := (true, "9cb0a8e9eca9814fc42dca3d76ba7799dc57fc6f61e4312c82f31ba033f0f296"), looks := true }, kinds := [], alts := [], laidByText := true, laidKinds := [.data, .data, .data, .sentinel, .sentinel], laidTests := true, laidLooks := .later }
def IntersectProveUptoCardSaid : Prop := Claim7.holds Tryz.pinned (.plain (OpenSpec.upto intersectProveSpec)) intersectProveUptoCard

/-- THE SECOND FORM's CARD OF 'sederuntlaw20.IntersectCheck'. -/
def intersectCheckUptoCard : Claim7 := { stood := { row := intersectCheckUptoRow, standIns := [], harness := (true, "9cb0a8e9eca9814fc42dca3d76ba7799dc57fc6f61e4312c82f31ba033f0f296"), looks := true }, kinds := [], alts := [], laidByText := true, laidKinds := [.data, .data, .data, .sentinel, .sentinel], laidTests := true, laidLooks := .later }
def IntersectCheckUptoCardSaid : Prop := Claim7.holds Tryz.pinned (.plain (OpenSpec.upto intersectCheckSpec)) intersectCheckUptoCard
end Rows
end Go.Proofs.YtflpkkebampmfaaGreatDoor
