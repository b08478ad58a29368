/-
  DERIVED. GIVEN WITH THE SEED: THE CARDS: each row of YtgfhcmidnbahjaaGreatDoorRows.lean that lists a variable, with what it lists TIED to the program's text (the seventh form; the later family's looks); each row that meets fmt, with fmt's text TOLD by the authors' own Lean function (tested against real Go, not proved from fmt's source: count such statements apart). THE CARD IS WHAT COUNTS. Prove the row's statement (the work); the ties are given (YtgfhcmidnbahjaaGreatDoorTie.lean); close each card by the builder's one call (the guide's Derived/Test/ToyasCard.lean, 'card_holds'). Laid BY PROGRAM, IN A SANDBOX (cutbox-door.mjs). By AI agents, Wed Nov 11 2026. No macro, syntax, notation, axiom, sorry.
-/
import Derived.Test.YtgfhcmidnbahjaaGreatDoorRows
import GoSem.ClaimSeven
namespace Go.Proofs.YtgfhcmidnbahjaaGreatDoor
namespace Rows

/-- THE TIED CARD OF 'postiliontop.TopCarried'. -/
def topCarriedCard : Claim7 := { stood := { row := topCarriedRow, standIns := [], harness := (true, "88a92325eb262b2f3e61b030a97cd1c60192b787e8fc19cfc15cf7184f2f8339"), looks := true }, kinds := [], alts := [], laidByText := true, laidKinds := [.data], laidTests := true, laidLooks := .later }
def TopCarriedCardSaid : Prop := Claim7.holds Tryz.pinned (.plain (OpenSpec.ofChange topCarriedSpec)) topCarriedCard

/-- THE TIED CARD OF 'postiliontop.TopBags'. -/
def topBagsCard : Claim7 := { stood := { row := topBagsRow, standIns := [], harness := (true, "88a92325eb262b2f3e61b030a97cd1c60192b787e8fc19cfc15cf7184f2f8339"), looks := true }, kinds := [], alts := [], laidByText := true, laidKinds := [.data], laidTests := true, laidLooks := .later }
def TopBagsCardSaid : Prop := Claim7.holds Tryz.pinned (.plain (OpenSpec.ofChange topBagsSpec)) topBagsCard

/-- THE TIED CARD OF 'postiliontop.TopTampered'. -/
def topTamperedCard : Claim7 := { stood := { row := topTamperedRow, standIns := [], harness := (true, "88a92325eb262b2f3e61b030a97cd1c60192b787e8fc19cfc15cf7184f2f8339"), looks := true }, kinds := [], alts := [], laidByText := true, laidKinds := [.data, .data, .data, .data, .data, .pinned], laidTests := true, laidLooks := .later }
def TopTamperedCardSaid : Prop := Claim7.holds Tryz.pinned (.plain (OpenSpec.ofChange topTamperedSpec)) topTamperedCard

/-- THE SECOND FORM's CARD OF 'postiliontop.TopCarried'. -/
def topCarriedUptoCard : Claim7 := { stood := { row := topCarriedUptoRow, standIns := [], harness := (true, "88a92325eb262b2f3e61b030a97cd1c60192b787e8fc19cfc15cf7184f2f8339"), looks := true }, kinds := [], alts := [], laidByText := true, laidKinds := [.data], laidTests := true, laidLooks := .later }
def TopCarriedUptoCardSaid : Prop := Claim7.holds Tryz.pinned (.plain (OpenSpec.upto topCarriedSpec)) topCarriedUptoCard

/-- THE SECOND FORM's CARD OF 'postiliontop.TopBags'. -/
def topBagsUptoCard : Claim7 := { stood := { row := topBagsUptoRow, standIns := [], harness := (true, "88a92325eb262b2f3e61b030a97cd1c60192b787e8fc19cfc15cf7184f2f8339"), looks := true }, kinds := [], alts := [], laidByText := true, laidKinds := [.data], laidTests := true, laidLooks := .later }
def TopBagsUptoCardSaid : Prop := Claim7.holds Tryz.pinned (.plain (OpenSpec.upto topBagsSpec)) topBagsUptoCard

/-- THE SECOND FORM's CARD OF 'postiliontop.TopTampered'. -/
def topTamperedUptoCard : Claim7 := { stood := { row := topTamperedUptoRow, standIns := [], harness := (true, "88a92325eb262b2f3e61b030a97cd1c60192b787e8fc19cfc15cf7184f2f8339"), looks := true }, kinds := [], alts := [], laidByText := true, laidKinds := [.data, .data, .data, .data, .data, .pinned], laidTests := true, laidLooks := .later }
def TopTamperedUptoCardSaid : Prop := Claim7.holds Tryz.pinned (.plain (OpenSpec.upto topTamperedSpec)) topTamperedUptoCard
end Rows
end Go.Proofs.YtgfhcmidnbahjaaGreatDoor
