/- The law's first steps from state to state. Conditions: none. -/
import Derived.Test.YtkdihjhndebloaaGreatDoorEvStart
set_option linter.unusedSectionVars false
set_option linter.unusedVariables false
set_option linter.unusedSimpArgs false
namespace Go.Ev
open Go Go.Proofs.Tryz
theorem k_known : ckV sA ((ev prog X0 4000).call 4 [] sS.h) = true := by kernel_rfl
theorem k_A5 : ckR 115 ⟨vs0, lA5, 1634, 115⟩ .normal ((ev prog X0 4000).code 3 (at3 3) (Sta.tm mk3 115 sA) (Sta.h sA)) = true := by kernel_rfl
theorem k_A6 : ckR 115 ⟨vs0, lA6, 1641, 117⟩ .normal ((ev prog X0 4000).code 3 (at3 4) (Sta.tm mk3 115 ⟨vs0, lA5, 1634, 115⟩) (Sta.h ⟨vs0, lA5, 1634, 115⟩)) = true := by kernel_rfl
theorem k_A7 : ckR 115 ⟨vs0, lA7, 1702, 125⟩ .normal ((ev prog X0 4000).code 3 (at3 5) (Sta.tm mk3 115 ⟨vs0, lA6, 1641, 117⟩) (Sta.h ⟨vs0, lA6, 1641, 117⟩)) = true := by kernel_rfl
theorem k_R0 : ckR 115 ⟨vs9 1, LR 1, NR 1, CR 1⟩ .normal ((ev prog X0 4000).code 3 (sq2 LB1) (Sta.tm mk3 115 ⟨vs9 0, LR 0, NR 0, CR 0⟩) (Sta.h ⟨vs9 0, LR 0, NR 0, CR 0⟩)) = true := by kernel_rfl
theorem k_R1 : ckR 115 ⟨vs9 2, LR 2, NR 2, CR 2⟩ .normal ((ev prog X0 4000).code 3 (sq2 LB1) (Sta.tm mk3 115 ⟨vs9 1, LR 1, NR 1, CR 1⟩) (Sta.h ⟨vs9 1, LR 1, NR 1, CR 1⟩)) = true := by kernel_rfl
end Go.Ev
