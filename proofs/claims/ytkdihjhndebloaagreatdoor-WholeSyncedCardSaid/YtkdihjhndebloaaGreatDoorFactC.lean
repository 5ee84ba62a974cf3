/- The row's cell recurses is what the kernel reckons. Conditions: none. -/
import Derived.Test.YtkdihjhndebloaaGreatDoorRows
import Derived.JoinedOf
import GoSem.ClaimSeven
namespace Go.Proofs.YtkdihjhndebloaaGreatDoor
open Go
theorem ws_n2 : (Rows.wholeSyncedRow.recurses == Tryz.prog.recurses 3) = true := by kernel_rfl
end Go.Proofs.YtkdihjhndebloaaGreatDoor
