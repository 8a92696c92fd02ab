/-
  DERIVED. GIVEN WITH THE SEED: THE CARDS: each row of YthdpknlnpeaiiaaDoorRows.lean that lists a variable, with what it lists TIED to the program's text (the seventh form; the later family's looks); each row that meets fmt, with fmt's text TOLD by the authors' own Lean function (tested against real Go, not proved from fmt's source: count such statements apart). THE CARD IS WHAT COUNTS. Prove the row's statement (the work); the ties are given (YthdpknlnpeaiiaaDoorTie.lean); close each card by the builder's one call (the guide's Derived/Test/ToyasCard.lean, 'card_holds'). Laid BY PROGRAM, IN A SANDBOX (cutbox-door.mjs). By AI agents, Wed Nov 11 2026. No macro, syntax, notation, axiom, sorry.
-/
import Derived.Test.YthdpknlnpeaiiaaDoorRows
import GoSem.ClaimSeven
namespace Go.Proofs.YthdpknlnpeaiiaaDoor
namespace Rows

/-- THE TIED CARD OF 'causewaylaw11.OutboxChecks'. -/
def outboxChecksCard : Claim7 := { stood := { row := outboxChecksRow, standIns := [], harness := (true, "d1f888c544cb6992b5ecf4aac90e54eaf30078694d27ccf33b81914b4eab952a"), looks := false }, kinds := [], alts := [], laidByText := true, laidKinds := [.data, .data, .data], laidTests := true, laidLooks := .later }
def OutboxChecksCardSaid : Prop := Claim7.holds Tryd.pinned (.plain (OpenSpec.ofChange outboxChecksSpec)) outboxChecksCard

/-- THE TIED CARD OF 'causewaylaw11.OutboxBooks'. -/
def outboxBooksCard : Claim7 := { stood := { row := outboxBooksRow, standIns := [], harness := (true, "d1f888c544cb6992b5ecf4aac90e54eaf30078694d27ccf33b81914b4eab952a"), looks := false }, kinds := [], alts := [], laidByText := true, laidKinds := [.data, .data, .data], laidTests := true, laidLooks := .later }
def OutboxBooksCardSaid : Prop := Claim7.holds Tryd.pinned (.plain (OpenSpec.ofChange outboxBooksSpec)) outboxBooksCard

/-- THE TIED CARD OF 'causewaylaw11.OutboxCuts'. -/
def outboxCutsCard : Claim7 := { stood := { row := outboxCutsRow, standIns := [], harness := (true, "d1f888c544cb6992b5ecf4aac90e54eaf30078694d27ccf33b81914b4eab952a"), looks := false }, kinds := [], alts := [], laidByText := true, laidKinds := [.data], laidTests := true, laidLooks := .later }
def OutboxCutsCardSaid : Prop := Claim7.holds Tryd.pinned (.plain (OpenSpec.ofChange outboxCutsSpec)) outboxCutsCard

/-- THE TIED CARD OF 'causewaylaw11.OutboxOne'. -/
def outboxOneCard : Claim7 := { stood := { row := outboxOneRow, standIns := [], harness := (true, "d1f888c544cb6992b5ecf4aac90e54eaf30078694d27ccf33b81914b4eab952a"), looks := false }, kinds := [], alts := [], laidByText := true, laidKinds := [.data, .data, .data], laidTests := true, laidLooks := .later }
def OutboxOneCardSaid : Prop := Claim7.holds Tryd.pinned (.plain (OpenSpec.ofChange outboxOneSpec)) outboxOneCard

/-- THE TIED CARD OF 'causewaylaw07.StoreNone'. -/
def storeNoneCard : Claim7 := { stood := { row := storeNoneRow, standIns := [], harness := (true, "d1f888c544cb6992b5ecf4aac90e54eaf30078694d27ccf33b81914b4eab952a"), looks := false }, kinds := [], alts := [], laidByText := true, laidKinds := [.data], laidTests := true, laidLooks := .later }
def StoreNoneCardSaid : Prop := Claim7.holds Tryd.pinned (.plain (OpenSpec.ofChange storeNoneSpec)) storeNoneCard

/-- THE TIED CARD OF 'causewaylaw11.OutboxNothing'. -/
def outboxNothingCard : Claim7 := { stood := { row := outboxNothingRow, standIns := [], harness := (true, "d1f888c544cb6992b5ecf4aac90e54eaf30078694d27ccf33b81914b4eab952a"), looks := false }, kinds := [], alts := [], laidByText := true, laidKinds := [.data, .data, .data], laidTests := true, laidLooks := .later }
def OutboxNothingCardSaid : Prop := Claim7.holds Tryd.pinned (.plain (OpenSpec.ofChange outboxNothingSpec)) outboxNothingCard

/-- THE TIED CARD OF 'causewaylaw09.TicketNames'. -/
def ticketNamesCard : Claim7 := { stood := { row := ticketNamesRow, standIns := [], harness := (true, "d1f888c544cb6992b5ecf4aac90e54eaf30078694d27ccf33b81914b4eab952a"), looks := false }, kinds := [], alts := [], laidByText := true, laidKinds := [.data], laidTests := true, laidLooks := .later }
def TicketNamesCardSaid : Prop := Claim7.holds Tryd.pinned (.plain (OpenSpec.ofChange ticketNamesSpec)) ticketNamesCard

/-- THE TIED CARD OF 'causewaylaw09.TicketNothing'. -/
def ticketNothingCard : Claim7 := { stood := { row := ticketNothingRow, standIns := [], harness := (true, "d1f888c544cb6992b5ecf4aac90e54eaf30078694d27ccf33b81914b4eab952a"), looks := false }, kinds := [], alts := [], laidByText := true, laidKinds := [.data], laidTests := true, laidLooks := .later }
def TicketNothingCardSaid : Prop := Claim7.holds Tryd.pinned (.plain (OpenSpec.ofChange ticketNothingSpec)) ticketNothingCard

/-- THE SECOND FORM's CARD OF 'causewaylaw11.OutboxChecks'. -/
def outboxChecksUptoCard : Claim7 := { stood := { row := outboxChecksUptoRow, standIns := [], harness := (true, "d1f888c544cb6992b5ecf4aac90e54eaf30078694d27ccf33b81914b4eab952a"), looks := false }, kinds := [], alts := [], laidByText := true, laidKinds := [.data, .data, .data], laidTests := true, laidLooks := .later }
def OutboxChecksUptoCardSaid : Prop := Claim7.holds Tryd.pinned (.plain (OpenSpec.upto outboxChecksSpec)) outboxChecksUptoCard

/-- THE SECOND FORM's CARD OF 'causewaylaw11.OutboxBooks'. -/
def outboxBooksUptoCard : Claim7 := { stood := { row := outboxBooksUptoRow, standIns := [], harness := (true, "d1f888c544cb6992b5ecf4aac90e54eaf30078694d27ccf33b81914b4eab952a"), looks := false }, kinds := [], alts := [], laidByText := true, laidKinds := [.data, .data, .data], laidTests := true, laidLooks := .later }
def OutboxBooksUptoCardSaid : Prop := Claim7.holds Tryd.pinned (.plain (OpenSpec.upto outboxBooksSpec)) outboxBooksUptoCard

/-- THE SECOND FORM's CARD OF 'causewaylaw11.OutboxCuts'. -/
def outboxCutsUptoCard : Claim7 := { stood := { row := outboxCutsUptoRow, standIns := [], harness := (true, "d1f888c544cb6992b5ecf4aac90e54eaf30078694d27ccf33b81914b4eab952a"), looks := false }, kinds := [], alts := [], laidByText := true, laidKinds := [.data], laidTests := true, laidLooks := .later }
def OutboxCutsUptoCardSaid : Prop := Claim7.holds Tryd.pinned (.plain (OpenSpec.upto outboxCutsSpec)) outboxCutsUptoCard

/-- THE SECOND FORM's CARD OF 'causewaylaw11.OutboxOne'. -/
def outboxOneUptoCard : Claim7 := { stood := { row := outboxOneUptoRow, standIns := [], harness := (true, "d1f888c544cb6992b5ecf4aac90e54eaf30078694d27ccf33b81914b4eab952a"), looks := false }, kinds := [], alts := [], laidByText := true, laidKinds := [.data, .data, .data], laidTests := true, laidLooks := .later }
def OutboxOneUptoCardSaid : Prop := Claim7.holds Tryd.pinned (.plain (OpenSpec.upto outboxOneSpec)) outboxOneUptoCard

/-- THE SECOND FORM's CARD OF 'causewaylaw07.StoreNone'. -/
def storeNoneUptoCard : Claim7 := { stood := { row := storeNoneUptoRow, standIns := [], harness := (true, "d1f888c544cb6992b5ecf4aac90e54eaf30078694d27ccf33b81914b4eab952a"), looks := false }, kinds := [], alts := [], laidByText := true, laidKinds := [.data], laidTests := true, laidLooks := .later }
def StoreNoneUptoCardSaid : Prop := Claim7.holds Tryd.pinned (.plain (OpenSpec.upto storeNoneSpec)) storeNoneUptoCard

/-- THE SECOND FORM's CARD OF 'causewaylaw11.OutboxNothing'. -/
def outboxNothingUptoCard : Claim7 := { stood := { row := outboxNothingUptoRow, standIns := [], harness := (true, "d1f888c544cb6992b5ecf4aac90e54eaf30078694d27ccf33b81914b4eab952a"), looks := false }, kinds := [], alts := [], laidByText := true, laidKinds := [.data, .data, .data], laidTests := true, laidLooks := .later }
def OutboxNothingUptoCardSaid : Prop := Claim7.holds Tryd.pinned (.plain (OpenSpec.upto outboxNothingSpec)) outboxNothingUptoCard

/-- THE SECOND FORM's CARD OF 'causewaylaw09.TicketNames'. -/
def ticketNamesUptoCard : Claim7 := { stood := { row := ticketNamesUptoRow, standIns := [], harness := (true, "d1f888c544cb6992b5ecf4aac90e54eaf30078694d27ccf33b81914b4eab952a"), looks := false }, kinds := [], alts := [], laidByText := true, laidKinds := [.data], laidTests := true, laidLooks := .later }
def TicketNamesUptoCardSaid : Prop := Claim7.holds Tryd.pinned (.plain (OpenSpec.upto ticketNamesSpec)) ticketNamesUptoCard

/-- THE SECOND FORM's CARD OF 'causewaylaw09.TicketNothing'. -/
def ticketNothingUptoCard : Claim7 := { stood := { row := ticketNothingUptoRow, standIns := [], harness := (true, "d1f888c544cb6992b5ecf4aac90e54eaf30078694d27ccf33b81914b4eab952a"), looks := false }, kinds := [], alts := [], laidByText := true, laidKinds := [.data], laidTests := true, laidLooks := .later }
def TicketNothingUptoCardSaid : Prop := Claim7.holds Tryd.pinned (.plain (OpenSpec.upto ticketNothingSpec)) ticketNothingUptoCard
end Rows
end Go.Proofs.YthdpknlnpeaiiaaDoor
