/-
  DERIVED. GIVEN WITH THE SEED: THE CARDS: each row of YtmfonkklmndhjaaGreatDoorRows.lean that lists a variable, with what it lists TIED to the program's text (the seventh form; the later family's looks); each row that meets fmt, with fmt's text TOLD by the authors' own Lean function (tested against real Go, not proved from fmt's source: count such statements apart). THE CARD IS WHAT COUNTS. Prove the row's statement (the work); the ties are given (YtmfonkklmndhjaaGreatDoorTie.lean); close each card by the builder's one call (the guide's Derived/Test/ToyasCard.lean, 'card_holds'). Laid BY PROGRAM, IN A SANDBOX (cutbox-door.mjs). By AI agents, Wed Nov 11 2026. No macro, syntax, notation, axiom, sorry.
-/
import Derived.Test.YtmfonkklmndhjaaGreatDoorRows
import GoSem.ClaimSeven
namespace Go.Proofs.YtmfonkklmndhjaaGreatDoor
namespace Rows

/-- THE TIED CARD OF 'causewaylaw11.OutboxPlays'. -/
def outboxPlaysCard : Claim7 := { stood := { row := outboxPlaysRow, standIns := [], harness := (true, "cc4fa2ccb44fb9d1b4df609946ce59fceeff68e19c349e3a70d56510cb58a284"), looks := false }, kinds := [], alts := [], laidByText := true, laidKinds := [.data, .data, .data, .data, .data], laidTests := true, laidLooks := .later }
def OutboxPlaysCardSaid : Prop := Claim7.holds Tryz.pinned (.plain (OpenSpec.ofChange outboxPlaysSpec)) outboxPlaysCard

/-- THE SECOND FORM's CARD OF 'causewaylaw11.OutboxPlays'. -/
def outboxPlaysUptoCard : Claim7 := { stood := { row := outboxPlaysUptoRow, standIns := [], harness := (true, "cc4fa2ccb44fb9d1b4df609946ce59fceeff68e19c349e3a70d56510cb58a284"), looks := false }, kinds := [], alts := [], laidByText := true, laidKinds := [.data, .data, .data, .data, .data], laidTests := true, laidLooks := .later }
def OutboxPlaysUptoCardSaid : Prop := Claim7.holds Tryz.pinned (.plain (OpenSpec.upto outboxPlaysSpec)) outboxPlaysUptoCard
end Rows
end Go.Proofs.YtmfonkklmndhjaaGreatDoor
