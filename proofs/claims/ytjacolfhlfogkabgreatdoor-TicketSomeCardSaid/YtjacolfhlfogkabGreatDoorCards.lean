/-
  DERIVED. GIVEN WITH THE SEED: THE CARDS: each row of YtjacolfhlfogkabGreatDoorRows.lean that lists a variable, with what it lists TIED to the program's text (the seventh form; the later family's looks); each row that meets fmt, with fmt's text TOLD by the authors' own Lean function (tested against real Go, not proved from fmt's source: count such statements apart). THE CARD IS WHAT COUNTS. Prove the row's statement (the work); the ties are given (YtjacolfhlfogkabGreatDoorTie.lean); close each card by the builder's one call (the guide's Derived/Test/ToyasCard.lean, 'card_holds'). Laid BY PROGRAM, IN A SANDBOX (cutbox-door.mjs). By AI agents, Wed Nov 11 2026. No macro, syntax, notation, axiom, sorry.
-/
import Derived.Test.YtjacolfhlfogkabGreatDoorRows
import GoSem.ClaimSeven
namespace Go.Proofs.YtjacolfhlfogkabGreatDoor
namespace Rows

/-- THE TIED CARD OF 'causewaylaw09.TicketSome'. -/
def ticketSomeCard : Claim7 := { stood := { row := ticketSomeRow, standIns := [], harness := (true, "7604a81593a15b0b1661a75c209f11869cf904a4299309d6f56d033af0349151"), looks := false }, kinds := [], alts := [], laidByText := true, laidKinds := [.data], laidTests := true, laidLooks := .later }
def TicketSomeCardSaid : Prop := Claim7.holds Tryz.pinned (.plain (OpenSpec.ofChange ticketSomeSpec)) ticketSomeCard

/-- THE TIED CARD OF 'causewaylaw09.TicketStays'. -/
def ticketStaysCard : Claim7 := { stood := { row := ticketStaysRow, standIns := [], harness := (true, "7604a81593a15b0b1661a75c209f11869cf904a4299309d6f56d033af0349151"), looks := false }, kinds := [], alts := [], laidByText := true, laidKinds := [.data], laidTests := true, laidLooks := .later }
def TicketStaysCardSaid : Prop := Claim7.holds Tryz.pinned (.plain (OpenSpec.ofChange ticketStaysSpec)) ticketStaysCard

/-- THE TIED CARD OF 'causewaylaw08.LedgerPlays'. -/
def ledgerPlaysCard : Claim7 := { stood := { row := ledgerPlaysRow, standIns := [], harness := (true, "7604a81593a15b0b1661a75c209f11869cf904a4299309d6f56d033af0349151"), looks := false }, kinds := [], alts := [], laidByText := true, laidKinds := [.data], laidTests := true, laidLooks := .later }
def LedgerPlaysCardSaid : Prop := Claim7.holds Tryz.pinned (.plain (OpenSpec.ofChange ledgerPlaysSpec)) ledgerPlaysCard

/-- THE SECOND FORM's CARD OF 'causewaylaw09.TicketSome'. -/
def ticketSomeUptoCard : Claim7 := { stood := { row := ticketSomeUptoRow, standIns := [], harness := (true, "7604a81593a15b0b1661a75c209f11869cf904a4299309d6f56d033af0349151"), looks := false }, kinds := [], alts := [], laidByText := true, laidKinds := [.data], laidTests := true, laidLooks := .later }
def TicketSomeUptoCardSaid : Prop := Claim7.holds Tryz.pinned (.plain (OpenSpec.upto ticketSomeSpec)) ticketSomeUptoCard

/-- THE SECOND FORM's CARD OF 'causewaylaw09.TicketStays'. -/
def ticketStaysUptoCard : Claim7 := { stood := { row := ticketStaysUptoRow, standIns := [], harness := (true, "7604a81593a15b0b1661a75c209f11869cf904a4299309d6f56d033af0349151"), looks := false }, kinds := [], alts := [], laidByText := true, laidKinds := [.data], laidTests := true, laidLooks := .later }
def TicketStaysUptoCardSaid : Prop := Claim7.holds Tryz.pinned (.plain (OpenSpec.upto ticketStaysSpec)) ticketStaysUptoCard

/-- THE SECOND FORM's CARD OF 'causewaylaw08.LedgerPlays'. -/
def ledgerPlaysUptoCard : Claim7 := { stood := { row := ledgerPlaysUptoRow, standIns := [], harness := (true, "7604a81593a15b0b1661a75c209f11869cf904a4299309d6f56d033af0349151"), looks := false }, kinds := [], alts := [], laidByText := true, laidKinds := [.data], laidTests := true, laidLooks := .later }
def LedgerPlaysUptoCardSaid : Prop := Claim7.holds Tryz.pinned (.plain (OpenSpec.upto ledgerPlaysSpec)) ledgerPlaysUptoCard
end Rows
end Go.Proofs.YtjacolfhlfogkabGreatDoor
