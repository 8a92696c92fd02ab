/-
  DERIVED. GIVEN WITH THE SEED: THE CARDS: each row of YtnbcbdlbejdkpaaGreatDoorRows.lean that lists a variable, with what it lists TIED to the program's text (the seventh form; the later family's looks); each row that meets fmt, with fmt's text TOLD by the authors' own Lean function (tested against real Go, not proved from fmt's source: count such statements apart). THE CARD IS WHAT COUNTS. Prove the row's statement (the work); the ties are given (YtnbcbdlbejdkpaaGreatDoorTie.lean); close each card by the builder's one call (the guide's Derived/Test/ToyasCard.lean, 'card_holds'). Laid BY PROGRAM, IN A SANDBOX (cutbox-door.mjs). By AI agents, Wed Nov 11 2026. No macro, syntax, notation, axiom, sorry.
-/
import Derived.Test.YtnbcbdlbejdkpaaGreatDoorRows
import GoSem.ClaimSeven
namespace Go.Proofs.YtnbcbdlbejdkpaaGreatDoor
namespace Rows

/-- THE TIED CARD OF 'causewaylaw08.LedgerWhose'. -/
def ledgerWhoseCard : Claim7 := { stood := { row := ledgerWhoseRow, standIns := [], harness := (true, "d5b27e1d1779623ad26278351445622b4cda431f8f58f06049e3b541d04b4a97"), looks := false }, kinds := [], alts := [], laidByText := true, laidKinds := [.data], laidTests := true, laidLooks := .later }
def LedgerWhoseCardSaid : Prop := Claim7.holds Tryz.pinned (.plain (OpenSpec.ofChange ledgerWhoseSpec)) ledgerWhoseCard

/-- THE TIED CARD OF 'causewaylaw07.StoreStates'. -/
def storeStatesCard : Claim7 := { stood := { row := storeStatesRow, standIns := [], harness := (true, "d5b27e1d1779623ad26278351445622b4cda431f8f58f06049e3b541d04b4a97"), looks := false }, kinds := [], alts := [], laidByText := true, laidKinds := [.data], laidTests := true, laidLooks := .later }
def StoreStatesCardSaid : Prop := Claim7.holds Tryz.pinned (.plain (OpenSpec.ofChange storeStatesSpec)) storeStatesCard

/-- THE TIED CARD OF 'causewaylaw08.LedgerPlays'. -/
def ledgerPlaysCard : Claim7 := { stood := { row := ledgerPlaysRow, standIns := [], harness := (true, "d5b27e1d1779623ad26278351445622b4cda431f8f58f06049e3b541d04b4a97"), looks := false }, kinds := [], alts := [], laidByText := true, laidKinds := [.data], laidTests := true, laidLooks := .later }
def LedgerPlaysCardSaid : Prop := Claim7.holds Tryz.pinned (.plain (OpenSpec.ofChange ledgerPlaysSpec)) ledgerPlaysCard

/-- THE SECOND FORM's CARD OF 'causewaylaw08.LedgerWhose'. -/
def ledgerWhoseUptoCard : Claim7 := { stood := { row := ledgerWhoseUptoRow, standIns := [], harness := (true, "d5b27e1d1779623ad26278351445622b4cda431f8f58f06049e3b541d04b4a97"), looks := false }, kinds := [], alts := [], laidByText := true, laidKinds := [.data], laidTests := true, laidLooks := .later }
def LedgerWhoseUptoCardSaid : Prop := Claim7.holds Tryz.pinned (.plain (OpenSpec.upto ledgerWhoseSpec)) ledgerWhoseUptoCard

/-- THE SECOND FORM's CARD OF 'causewaylaw07.StoreStates'. -/
def storeStatesUptoCard : Claim7 := { stood := { row := storeStatesUptoRow, standIns := [], harness := (true, "d5b27e1d1779623ad26278351445622b4cda431f8f58f06049e3b541d04b4a97"), looks := false }, kinds := [], alts := [], laidByText := true, laidKinds := [.data], laidTests := true, laidLooks := .later }
def StoreStatesUptoCardSaid : Prop := Claim7.holds Tryz.pinned (.plain (OpenSpec.upto storeStatesSpec)) storeStatesUptoCard

/-- THE SECOND FORM's CARD OF 'causewaylaw08.LedgerPlays'. -/
def ledgerPlaysUptoCard : Claim7 := { stood := { row := ledgerPlaysUptoRow, standIns := [], harness := (true, "d5b27e1d1779623ad26278351445622b4cda431f8f58f06049e3b541d04b4a97"), looks := false }, kinds := [], alts := [], laidByText := true, laidKinds := [.data], laidTests := true, laidLooks := .later }
def LedgerPlaysUptoCardSaid : Prop := Claim7.holds Tryz.pinned (.plain (OpenSpec.upto ledgerPlaysSpec)) ledgerPlaysUptoCard
end Rows
end Go.Proofs.YtnbcbdlbejdkpaaGreatDoor
