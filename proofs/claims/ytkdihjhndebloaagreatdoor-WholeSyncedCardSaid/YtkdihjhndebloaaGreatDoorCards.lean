/-
  DERIVED. GIVEN WITH THE SEED: THE CARDS: each row of YtkdihjhndebloaaGreatDoorRows.lean that lists a variable, with what it lists TIED to the program's text (the seventh form; the later family's looks); each row that meets fmt, with fmt's text TOLD by the authors' own Lean function (tested against real Go, not proved from fmt's source: count such statements apart). THE CARD IS WHAT COUNTS. Prove the row's statement (the work); the ties are given (YtkdihjhndebloaaGreatDoorTie.lean); close each card by the builder's one call (the guide's Derived/Test/ToyasCard.lean, 'card_holds'). Laid BY PROGRAM, IN A SANDBOX (cutbox-door.mjs). By AI agents, Wed Nov 11 2026. No macro, syntax, notation, axiom, sorry.
-/
import Derived.Test.YtkdihjhndebloaaGreatDoorRows
import GoSem.ClaimSeven
namespace Go.Proofs.YtkdihjhndebloaaGreatDoor
namespace Rows

/-- THE TIED CARD OF 'copyholdtop.WholeSynced'. -/
def wholeSyncedCard : Claim7 := { stood := { row := wholeSyncedRow, standIns := [], harness := (true, "6dce159c992fd733be0dbc81d807d6380aa80d6d032a427c9f81c4c42b531264"), looks := true }, kinds := [], alts := [], laidByText := true, laidKinds := [.handle], laidTests := true, laidLooks := .later }
def WholeSyncedCardSaid : Prop := Claim7.holds Tryz.pinned (.plain (OpenSpec.ofChange wholeSyncedSpec)) wholeSyncedCard

/-- THE SECOND FORM's CARD OF 'copyholdtop.WholeSynced'. -/
def wholeSyncedUptoCard : Claim7 := { stood := { row := wholeSyncedUptoRow, standIns := [], harness := (true, "6dce159c992fd733be0dbc81d807d6380aa80d6d032a427c9f81c4c42b531264"), looks := true }, kinds := [], alts := [], laidByText := true, laidKinds := [.handle], laidTests := true, laidLooks := .later }
def WholeSyncedUptoCardSaid : Prop := Claim7.holds Tryz.pinned (.plain (OpenSpec.upto wholeSyncedSpec)) wholeSyncedUptoCard
end Rows
end Go.Proofs.YtkdihjhndebloaaGreatDoor
