/-
  DERIVED. GIVEN WITH THE SEED: THE CARDS: each row of YtnbcbdlbejdkpaaDoorRows.lean that lists a variable, with what it lists TIED to the program's text (the seventh form; the later family's looks); each row that meets fmt, with fmt's text TOLD by the authors' own Lean function (tested against real Go, not proved from fmt's source: count such statements apart). THE CARD IS WHAT COUNTS. Prove the row's statement (the work); the ties are given (YtnbcbdlbejdkpaaDoorTie.lean); close each card by the builder's one call (the guide's Derived/Test/ToyasCard.lean, 'card_holds'). Laid BY PROGRAM, IN A SANDBOX (cutbox-door.mjs). By AI agents, Wed Nov 11 2026. No macro, syntax, notation, axiom, sorry.
-/
import Derived.Test.YtnbcbdlbejdkpaaDoorRows
import GoSem.ClaimSeven
namespace Go.Proofs.YtnbcbdlbejdkpaaDoor
namespace Rows

/-- THE TIED CARD OF 'causewaylaw08.LedgerGives'. -/
def ledgerGivesCard : Claim7 := { stood := { row := ledgerGivesRow, standIns := [], harness := (true, "e875243ba00bb29e1be0264947777e02fd10d73bbd9d21f5fdf8d7d74a911bb4"), looks := false }, kinds := [], alts := [], laidByText := true, laidKinds := [.data], laidTests := true, laidLooks := .later }
def LedgerGivesCardSaid : Prop := Claim7.holds Tryd.pinned (.plain (OpenSpec.ofChange ledgerGivesSpec)) ledgerGivesCard

/-- THE TIED CARD OF 'causewaylaw08.LedgerNils'. -/
def ledgerNilsCard : Claim7 := { stood := { row := ledgerNilsRow, standIns := [], harness := (true, "e875243ba00bb29e1be0264947777e02fd10d73bbd9d21f5fdf8d7d74a911bb4"), looks := false }, kinds := [], alts := [], laidByText := true, laidKinds := [.data], laidTests := true, laidLooks := .later }
def LedgerNilsCardSaid : Prop := Claim7.holds Tryd.pinned (.plain (OpenSpec.ofChange ledgerNilsSpec)) ledgerNilsCard

/-- THE TIED CARD OF 'causewaylaw08.LedgerSums'. -/
def ledgerSumsCard : Claim7 := { stood := { row := ledgerSumsRow, standIns := [], harness := (true, "e875243ba00bb29e1be0264947777e02fd10d73bbd9d21f5fdf8d7d74a911bb4"), looks := false }, kinds := [], alts := [], laidByText := true, laidKinds := [.data], laidTests := true, laidLooks := .later }
def LedgerSumsCardSaid : Prop := Claim7.holds Tryd.pinned (.plain (OpenSpec.ofChange ledgerSumsSpec)) ledgerSumsCard

/-- THE TIED CARD OF 'causewaylaw08.LedgerBack'. -/
def ledgerBackCard : Claim7 := { stood := { row := ledgerBackRow, standIns := [], harness := (true, "e875243ba00bb29e1be0264947777e02fd10d73bbd9d21f5fdf8d7d74a911bb4"), looks := false }, kinds := [], alts := [], laidByText := true, laidKinds := [.data], laidTests := true, laidLooks := .later }
def LedgerBackCardSaid : Prop := Claim7.holds Tryd.pinned (.plain (OpenSpec.ofChange ledgerBackSpec)) ledgerBackCard

/-- THE TIED CARD OF 'causewaylaw09.TicketKeeps'. -/
def ticketKeepsCard : Claim7 := { stood := { row := ticketKeepsRow, standIns := [], harness := (true, "e875243ba00bb29e1be0264947777e02fd10d73bbd9d21f5fdf8d7d74a911bb4"), looks := false }, kinds := [], alts := [], laidByText := true, laidKinds := [.data], laidTests := true, laidLooks := .later }
def TicketKeepsCardSaid : Prop := Claim7.holds Tryd.pinned (.plain (OpenSpec.ofChange ticketKeepsSpec)) ticketKeepsCard

/-- THE TIED CARD OF 'causewaylaw07.StoreBacks'. -/
def storeBacksCard : Claim7 := { stood := { row := storeBacksRow, standIns := [], harness := (true, "e875243ba00bb29e1be0264947777e02fd10d73bbd9d21f5fdf8d7d74a911bb4"), looks := false }, kinds := [], alts := [], laidByText := true, laidKinds := [.data], laidTests := true, laidLooks := .later }
def StoreBacksCardSaid : Prop := Claim7.holds Tryd.pinned (.plain (OpenSpec.ofChange storeBacksSpec)) storeBacksCard

/-- THE SECOND FORM's CARD OF 'causewaylaw08.LedgerGives'. -/
def ledgerGivesUptoCard : Claim7 := { stood := { row := ledgerGivesUptoRow, standIns := [], harness := (true, "e875243ba00bb29e1be0264947777e02fd10d73bbd9d21f5fdf8d7d74a911bb4"), looks := false }, kinds := [], alts := [], laidByText := true, laidKinds := [.data], laidTests := true, laidLooks := .later }
def LedgerGivesUptoCardSaid : Prop := Claim7.holds Tryd.pinned (.plain (OpenSpec.upto ledgerGivesSpec)) ledgerGivesUptoCard

/-- THE SECOND FORM's CARD OF 'causewaylaw08.LedgerNils'. -/
def ledgerNilsUptoCard : Claim7 := { stood := { row := ledgerNilsUptoRow, standIns := [], harness := (true, "e875243ba00bb29e1be0264947777e02fd10d73bbd9d21f5fdf8d7d74a911bb4"), looks := false }, kinds := [], alts := [], laidByText := true, laidKinds := [.data], laidTests := true, laidLooks := .later }
def LedgerNilsUptoCardSaid : Prop := Claim7.holds Tryd.pinned (.plain (OpenSpec.upto ledgerNilsSpec)) ledgerNilsUptoCard

/-- THE SECOND FORM's CARD OF 'causewaylaw08.LedgerSums'. -/
def ledgerSumsUptoCard : Claim7 := { stood := { row := ledgerSumsUptoRow, standIns := [], harness := (true, "e875243ba00bb29e1be0264947777e02fd10d73bbd9d21f5fdf8d7d74a911bb4"), looks := false }, kinds := [], alts := [], laidByText := true, laidKinds := [.data], laidTests := true, laidLooks := .later }
def LedgerSumsUptoCardSaid : Prop := Claim7.holds Tryd.pinned (.plain (OpenSpec.upto ledgerSumsSpec)) ledgerSumsUptoCard

/-- THE SECOND FORM's CARD OF 'causewaylaw08.LedgerBack'. -/
def ledgerBackUptoCard : Claim7 := { stood := { row := ledgerBackUptoRow, standIns := [], harness := (true, "e875243ba00bb29e1be0264947777e02fd10d73bbd9d21f5fdf8d7d74a911bb4"), looks := false }, kinds := [], alts := [], laidByText := true, laidKinds := [.data], laidTests := true, laidLooks := .later }
def LedgerBackUptoCardSaid : Prop := Claim7.holds Tryd.pinned (.plain (OpenSpec.upto ledgerBackSpec)) ledgerBackUptoCard

/-- THE SECOND FORM's CARD OF 'causewaylaw09.TicketKeeps'. -/
def ticketKeepsUptoCard : Claim7 := { stood := { row := ticketKeepsUptoRow, standIns := [], harness := (true, "e875243ba00bb29e1be0264947777e02fd10d73bbd9d21f5fdf8d7d74a911bb4"), looks := false }, kinds := [], alts := [], laidByText := true, laidKinds := [.data], laidTests := true, laidLooks := .later }
def TicketKeepsUptoCardSaid : Prop := Claim7.holds Tryd.pinned (.plain (OpenSpec.upto ticketKeepsSpec)) ticketKeepsUptoCard

/-- THE SECOND FORM's CARD OF 'causewaylaw07.StoreBacks'. -/
def storeBacksUptoCard : Claim7 := { stood := { row := storeBacksUptoRow, standIns := [], harness := (true, "e875243ba00bb29e1be0264947777e02fd10d73bbd9d21f5fdf8d7d74a911bb4"), looks := false }, kinds := [], alts := [], laidByText := true, laidKinds := [.data], laidTests := true, laidLooks := .later }
def StoreBacksUptoCardSaid : Prop := Claim7.holds Tryd.pinned (.plain (OpenSpec.upto storeBacksSpec)) storeBacksUptoCard
end Rows
end Go.Proofs.YtnbcbdlbejdkpaaDoor
