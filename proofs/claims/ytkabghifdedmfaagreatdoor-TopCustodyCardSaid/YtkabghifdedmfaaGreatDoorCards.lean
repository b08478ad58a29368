/-
  DERIVED. GIVEN WITH THE SEED: THE CARDS: each row of YtkabghifdedmfaaGreatDoorRows.lean that lists a variable, with what it lists TIED to the program's text (the seventh form; the later family's looks); each row that meets fmt, with fmt's text TOLD by the authors' own Lean function (tested against real Go, not proved from fmt's source: count such statements apart). THE CARD IS WHAT COUNTS. Prove the row's statement (the work); the ties are given (YtkabghifdedmfaaGreatDoorTie.lean); close each card by the builder's one call (the guide's Derived/Test/ToyasCard.lean, 'card_holds'). Laid BY PROGRAM, IN A SANDBOX (cutbox-door.mjs). By AI agents, Wed Nov 11 2026. No macro, syntax, notation, axiom, sorry.
-/
import Derived.Test.YtkabghifdedmfaaGreatDoorRows
import GoSem.ClaimSeven
namespace Go.Proofs.YtkabghifdedmfaaGreatDoor
namespace Rows

/-- THE TIED CARD OF 'postiliontop.TopCustody'. -/
def topCustodyCard : Claim7 := { stood := { row := topCustodyRow, standIns := [], harness := (true, "b9b2d9ee6082bf0051cdb496367058d01ff069421ca31520145daa5e84b79e3a"), looks := false }, kinds := [], alts := [], laidByText := true, laidKinds := [.data, .data, .data, .data], laidTests := true, laidLooks := .later }
def TopCustodyCardSaid : Prop := Claim7.holds Tryz.pinned (.plain (OpenSpec.ofChange topCustodySpec)) topCustodyCard

/-- THE SECOND FORM's CARD OF 'postiliontop.TopCustody'. -/
def topCustodyUptoCard : Claim7 := { stood := { row := topCustodyUptoRow, standIns := [], harness := (true, "b9b2d9ee6082bf0051cdb496367058d01ff069421ca31520145daa5e84b79e3a"), looks := false }, kinds := [], alts := [], laidByText := true, laidKinds := [.data, .data, .data, .data], laidTests := true, laidLooks := .later }
def TopCustodyUptoCardSaid : Prop := Claim7.holds Tryz.pinned (.plain (OpenSpec.upto topCustodySpec)) topCustodyUptoCard
end Rows
end Go.Proofs.YtkabghifdedmfaaGreatDoor
