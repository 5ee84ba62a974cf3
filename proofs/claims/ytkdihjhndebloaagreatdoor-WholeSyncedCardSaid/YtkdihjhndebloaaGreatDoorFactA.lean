/- The row's cell inPlace is what the kernel reckons. Conditions: none. -/
import Derived.Test.YtkdihjhndebloaaGreatDoorRows
import Derived.JoinedOf
import GoSem.ClaimSeven
namespace Go.Proofs.YtkdihjhndebloaaGreatDoor
open Go
theorem ws_n0 : (Rows.wholeSyncedRow.inPlace == Tryz.prog.inPlace 3) = true := by kernel_rfl
end Go.Proofs.YtkdihjhndebloaaGreatDoor
