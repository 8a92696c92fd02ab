/-
  DERIVED. GIVEN WITH THE SEED: THE CARDS: each row of YtkmopjplfeeaeaaGreatDoorRows.lean that lists a variable, with what it lists TIED to the program's text (the seventh form; the later family's looks); each row that meets fmt, with fmt's text TOLD by the authors' own Lean function (tested against real Go, not proved from fmt's source: count such statements apart). THE CARD IS WHAT COUNTS. Prove the row's statement (the work); the ties are given (YtkmopjplfeeaeaaGreatDoorTie.lean); close each card by the builder's one call (the guide's Derived/Test/ToyasCard.lean, 'card_holds'). Laid BY PROGRAM, IN A SANDBOX (cutbox-door.mjs). By AI agents, Wed Nov 11 2026. No macro, syntax, notation, axiom, sorry.
-/
import Derived.Test.YtkmopjplfeeaeaaGreatDoorRows
import GoSem.ClaimSeven
namespace Go.Proofs.YtkmopjplfeeaeaaGreatDoor
namespace Rows

/-- THE TIED CARD OF 'causewaylaw09.TicketPlays'. -/
def ticketPlaysCard : Claim7 := { stood := { row := ticketPlaysRow, standIns := [], harness := (true, "62b1c1bf4a5f1f15ad40ea4090f240fda78907b32e3e560a5b98a563fbaa159b"), looks := false }, kinds := [], alts := [], laidByText := true, laidKinds := [.data], laidTests := true, laidLooks := .later }
def TicketPlaysCardSaid : Prop := Claim7.holds Tryz.pinned (.plain (OpenSpec.ofChange ticketPlaysSpec)) ticketPlaysCard

/-- THE SECOND FORM's CARD OF 'causewaylaw09.TicketPlays'. -/
def ticketPlaysUptoCard : Claim7 := { stood := { row := ticketPlaysUptoRow, standIns := [], harness := (true, "62b1c1bf4a5f1f15ad40ea4090f240fda78907b32e3e560a5b98a563fbaa159b"), looks := false }, kinds := [], alts := [], laidByText := true, laidKinds := [.data], laidTests := true, laidLooks := .later }
def TicketPlaysUptoCardSaid : Prop := Claim7.holds Tryz.pinned (.plain (OpenSpec.upto ticketPlaysSpec)) ticketPlaysUptoCard
end Rows
end Go.Proofs.YtkmopjplfeeaeaaGreatDoor
