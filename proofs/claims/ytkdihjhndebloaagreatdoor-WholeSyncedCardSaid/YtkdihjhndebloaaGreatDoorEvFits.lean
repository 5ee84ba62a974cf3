/- The plans of all functions fit. Conditions: none. -/
import Derived.Test.YtkdihjhndebloaaGreatDoorEvParts
set_option linter.unusedSectionVars false
set_option linter.unusedVariables false
set_option linter.unusedSimpArgs false
namespace Go.Ev
open Go
noncomputable def okAt (X : Ex) (f : FuncId) : Bool := match codeOf Go.Proofs.Tryz.prog f with | some (_, c) => okC X f c | none => true
theorem ft0 : ((List.range 64).all fun i => okAt X0 (0 + i)) = true := by kernel_rfl
theorem ft1 : ((List.range 64).all fun i => okAt X0 (64 + i)) = true := by kernel_rfl
theorem ft2 : ((List.range 64).all fun i => okAt X0 (128 + i)) = true := by kernel_rfl
theorem ft3 : ((List.range 64).all fun i => okAt X0 (192 + i)) = true := by kernel_rfl
theorem ft4 : ((List.range 64).all fun i => okAt X0 (256 + i)) = true := by kernel_rfl
theorem ft5 : ((List.range 64).all fun i => okAt X0 (320 + i)) = true := by kernel_rfl
theorem ft6 : ((List.range 64).all fun i => okAt X0 (384 + i)) = true := by kernel_rfl
theorem ft7 : ((List.range 64).all fun i => okAt X0 (448 + i)) = true := by kernel_rfl
end Go.Ev
