/- The row's cell named is what the kernel reckons. Conditions: none. -/
import Derived.Test.YtkdihjhndebloaaGreatDoorRows
import Derived.JoinedOf
import GoSem.ClaimSeven
namespace Go.Proofs.YtkdihjhndebloaaGreatDoor
open Go
theorem ws_n3 : (Rows.wholeSyncedRow.named == Tryz.prog.varsNamed 3) = true := by kernel_rfl
end Go.Proofs.YtkdihjhndebloaaGreatDoor
