/- The row's cell unfollowed is what the kernel reckons. Conditions: none. -/
import Derived.Test.YtkdihjhndebloaaGreatDoorRows
import Derived.JoinedOf
import GoSem.ClaimSeven
namespace Go.Proofs.YtkdihjhndebloaaGreatDoor
open Go
theorem ws_n1 : (Rows.wholeSyncedRow.unfollowed == Tryz.prog.unfollowed 3) = true := by kernel_rfl
end Go.Proofs.YtkdihjhndebloaaGreatDoor
