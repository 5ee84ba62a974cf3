/- The plans of the functions of even number fit. Conditions: none. -/
import Derived.Test.YtkdihjhndebloaaGreatDoorEvParts
set_option linter.unusedSectionVars false
set_option linter.unusedVariables false
set_option linter.unusedSimpArgs false
namespace Go.Ev
open Go
noncomputable def okAt (X : Ex) (f : FuncId) : Bool := match codeOf Go.Proofs.Tryz.prog f with | some (_, c) => okC X f c | none => true
end Go.Ev
namespace Go.Ev
open Go
theorem ft0 : ((List.range 253).all fun i => okAt X0 (2 * i + 0)) = true := by kernel_rfl
end Go.Ev
