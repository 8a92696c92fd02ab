/-
  DERIVED. GIVEN WITH THE SEED: THE CARDS: each row of YtjkldhalmglkpaaDoorRows.lean that lists a variable, with what it lists TIED to the program's text (the seventh form; the later family's looks); each row that meets fmt, with fmt's text TOLD by the authors' own Lean function (tested against real Go, not proved from fmt's source: count such statements apart). THE CARD IS WHAT COUNTS. Prove the row's statement (the work); the ties are given (YtjkldhalmglkpaaDoorTie.lean); close each card by the builder's one call (the guide's Derived/Test/ToyasCard.lean, 'card_holds'). Laid BY PROGRAM, IN A SANDBOX (cutbox-door.mjs). By AI agents, Wed Nov 11 2026. No macro, syntax, notation, axiom, sorry.
-/
import Derived.Test.YtjkldhalmglkpaaDoorRows
import GoSem.ClaimSeven
namespace Go.Proofs.YtjkldhalmglkpaaDoor
namespace Rows

/-- THE TIED CARD OF 'causewaylaw07.StoreAlls'. -/
def storeAllsCard : Claim7 := { stood := { row := storeAllsRow, standIns := [], harness := (true, "fe8e72a7de79b707e9dd0732f5f2a975603fc57c9bcb6fa1bedc246c1da68027"), looks := true }, kinds := [], alts := [], laidByText := true, laidKinds := [.data], laidTests := true, laidLooks := .later }
def StoreAllsCardSaid : Prop := Claim7.holds Tryd.pinned (.plain (OpenSpec.ofChange storeAllsSpec)) storeAllsCard

/-- THE TIED CARD OF 'causewaylaw07.StoreRoots'. -/
def storeRootsCard : Claim7 := { stood := { row := storeRootsRow, standIns := [], harness := (true, "fe8e72a7de79b707e9dd0732f5f2a975603fc57c9bcb6fa1bedc246c1da68027"), looks := true }, kinds := [], alts := [], laidByText := true, laidKinds := [.data], laidTests := true, laidLooks := .later }
def StoreRootsCardSaid : Prop := Claim7.holds Tryd.pinned (.plain (OpenSpec.ofChange storeRootsSpec)) storeRootsCard

/-- THE TIED CARD OF 'causewaylaw07.StoreLists'. -/
def storeListsCard : Claim7 := { stood := { row := storeListsRow, standIns := [], harness := (true, "fe8e72a7de79b707e9dd0732f5f2a975603fc57c9bcb6fa1bedc246c1da68027"), looks := true }, kinds := [], alts := [], laidByText := true, laidKinds := [.data], laidTests := true, laidLooks := .later }
def StoreListsCardSaid : Prop := Claim7.holds Tryd.pinned (.plain (OpenSpec.ofChange storeListsSpec)) storeListsCard

/-- THE TIED CARD OF 'causewaylaw07.StoreLaid'. -/
def storeLaidCard : Claim7 := { stood := { row := storeLaidRow, standIns := [], harness := (true, "fe8e72a7de79b707e9dd0732f5f2a975603fc57c9bcb6fa1bedc246c1da68027"), looks := true }, kinds := [], alts := [], laidByText := true, laidKinds := [.data], laidTests := true, laidLooks := .later }
def StoreLaidCardSaid : Prop := Claim7.holds Tryd.pinned (.plain (OpenSpec.ofChange storeLaidSpec)) storeLaidCard

/-- THE TIED CARD OF 'causewaylaw07.StoreProofs'. -/
def storeProofsCard : Claim7 := { stood := { row := storeProofsRow, standIns := [], harness := (true, "fe8e72a7de79b707e9dd0732f5f2a975603fc57c9bcb6fa1bedc246c1da68027"), looks := true }, kinds := [], alts := [], laidByText := true, laidKinds := [.data], laidTests := true, laidLooks := .later }
def StoreProofsCardSaid : Prop := Claim7.holds Tryd.pinned (.plain (OpenSpec.ofChange storeProofsSpec)) storeProofsCard

/-- THE SECOND FORM's CARD OF 'causewaylaw07.StoreAlls'. -/
def storeAllsUptoCard : Claim7 := { stood := { row := storeAllsUptoRow, standIns := [], harness := (true, "fe8e72a7de79b707e9dd0732f5f2a975603fc57c9bcb6fa1bedc246c1da68027"), looks := true }, kinds := [], alts := [], laidByText := true, laidKinds := [.data], laidTests := true, laidLooks := .later }
def StoreAllsUptoCardSaid : Prop := Claim7.holds Tryd.pinned (.plain (OpenSpec.upto storeAllsSpec)) storeAllsUptoCard

/-- THE SECOND FORM's CARD OF 'causewaylaw07.StoreRoots'. -/
def storeRootsUptoCard : Claim7 := { stood := { row := storeRootsUptoRow, standIns := [], harness := (true, "fe8e72a7de79b707e9dd0732f5f2a975603fc57c9bcb6fa1bedc246c1da68027"), looks := true }, kinds := [], alts := [], laidByText := true, laidKinds := [.data], laidTests := true, laidLooks := .later }
def StoreRootsUptoCardSaid : Prop := Claim7.holds Tryd.pinned (.plain (OpenSpec.upto storeRootsSpec)) storeRootsUptoCard

/-- THE SECOND FORM's CARD OF 'causewaylaw07.StoreLists'. -/
def storeListsUptoCard : Claim7 := { stood := { row := storeListsUptoRow, standIns := [], harness := (true, "fe8e72a7de79b707e9dd0732f5f2a975603fc57c9bcb6fa1bedc246c1da68027"), looks := true }, kinds := [], alts := [], laidByText := true, laidKinds := [.data], laidTests := true, laidLooks := .later }
def StoreListsUptoCardSaid : Prop := Claim7.holds Tryd.pinned (.plain (OpenSpec.upto storeListsSpec)) storeListsUptoCard

/-- THE SECOND FORM's CARD OF 'causewaylaw07.StoreLaid'. -/
def storeLaidUptoCard : Claim7 := { stood := { row := storeLaidUptoRow, standIns := [], harness := (true, "fe8e72a7de79b707e9dd0732f5f2a975603fc57c9bcb6fa1bedc246c1da68027"), looks := true }, kinds := [], alts := [], laidByText := true, laidKinds := [.data], laidTests := true, laidLooks := .later }
def StoreLaidUptoCardSaid : Prop := Claim7.holds Tryd.pinned (.plain (OpenSpec.upto storeLaidSpec)) storeLaidUptoCard

/-- THE SECOND FORM's CARD OF 'causewaylaw07.StoreProofs'. -/
def storeProofsUptoCard : Claim7 := { stood := { row := storeProofsUptoRow, standIns := [], harness := (true, "fe8e72a7de79b707e9dd0732f5f2a975603fc57c9bcb6fa1bedc246c1da68027"), looks := true }, kinds := [], alts := [], laidByText := true, laidKinds := [.data], laidTests := true, laidLooks := .later }
def StoreProofsUptoCardSaid : Prop := Claim7.holds Tryd.pinned (.plain (OpenSpec.upto storeProofsSpec)) storeProofsUptoCard
end Rows
end Go.Proofs.YtjkldhalmglkpaaDoor
