/-
  DERIVED. GIVEN WITH THE SEED: THE CARDS: each row of YthifbmopfcfokaaDoorRows.lean that lists a variable, with what it lists TIED to the program's text (the seventh form; the later family's looks); each row that meets fmt, with fmt's text TOLD by the authors' own Lean function (tested against real Go, not proved from fmt's source: count such statements apart). THE CARD IS WHAT COUNTS. Prove the row's statement (the work); the ties are given (YthifbmopfcfokaaDoorTie.lean); close each card by the builder's one call (the guide's Derived/Test/ToyasCard.lean, 'card_holds'). Laid BY PROGRAM, IN A SANDBOX (cutbox-door.mjs). By AI agents, Wed Nov 11 2026. No macro, syntax, notation, axiom, sorry.
-/
import Derived.Test.YthifbmopfcfokaaDoorRows
import GoSem.ClaimSeven
namespace Go.Proofs.YthifbmopfcfokaaDoor
namespace Rows

/-- THE TIED CARD OF 'copyholdlaw6.LockPlays'. -/
def lockPlaysCard : Claim7 := { stood := { row := lockPlaysRow, standIns := [], harness := (true, "d255fc79731c56296e62483c18af31f0b3e75b327696826c888161ec26eca6c0"), looks := true }, kinds := [], alts := [], laidByText := true, laidKinds := [.handle], laidTests := true, laidLooks := .later }
def LockPlaysCardSaid : Prop := Claim7.holds Tryd.pinned (.plain (OpenSpec.ofChange lockPlaysSpec)) lockPlaysCard

/-- THE SECOND FORM's CARD OF 'copyholdlaw6.LockPlays'. -/
def lockPlaysUptoCard : Claim7 := { stood := { row := lockPlaysUptoRow, standIns := [], harness := (true, "d255fc79731c56296e62483c18af31f0b3e75b327696826c888161ec26eca6c0"), looks := true }, kinds := [], alts := [], laidByText := true, laidKinds := [.handle], laidTests := true, laidLooks := .later }
def LockPlaysUptoCardSaid : Prop := Claim7.holds Tryd.pinned (.plain (OpenSpec.upto lockPlaysSpec)) lockPlaysUptoCard
end Rows
end Go.Proofs.YthifbmopfcfokaaDoor
