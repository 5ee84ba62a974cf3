/- The law's rounds from state to state. Conditions: none. -/
import Derived.Test.YtkdihjhndebloaaGreatDoorEvStart
set_option linter.unusedSectionVars false
set_option linter.unusedVariables false
set_option linter.unusedSimpArgs false
namespace Go.Ev
open Go Go.Proofs.Tryz
theorem k_R2 : ckR 115 ⟨vs9 3, LR 3, NR 3, CR 3⟩ .normal ((ev prog X0 4000).code 3 (sq2 LB1) (Sta.tm mk3 115 ⟨vs9 2, LR 2, NR 2, CR 2⟩) (Sta.h ⟨vs9 2, LR 2, NR 2, CR 2⟩)) = true := by kernel_rfl
theorem k_R3 : ckR 115 ⟨vs9 4, LR 4, NR 4, CR 4⟩ .normal ((ev prog X0 4000).code 3 (sq2 LB1) (Sta.tm mk3 115 ⟨vs9 3, LR 3, NR 3, CR 3⟩) (Sta.h ⟨vs9 3, LR 3, NR 3, CR 3⟩)) = true := by kernel_rfl
theorem k_R4 : ckR 115 ⟨vs9 5, LR 5, NR 5, CR 5⟩ .normal ((ev prog X0 4000).code 3 (sq2 LB1) (Sta.tm mk3 115 ⟨vs9 4, LR 4, NR 4, CR 4⟩) (Sta.h ⟨vs9 4, LR 4, NR 4, CR 4⟩)) = true := by kernel_rfl
end Go.Ev
