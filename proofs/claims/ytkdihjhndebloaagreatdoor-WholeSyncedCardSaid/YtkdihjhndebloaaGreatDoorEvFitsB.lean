/- The plans of the functions of odd number fit. Conditions: none. -/
import Derived.Test.YtkdihjhndebloaaGreatDoorEvFits
set_option linter.unusedSectionVars false
set_option linter.unusedVariables false
set_option linter.unusedSimpArgs false
namespace Go.Ev
open Go
theorem ft1 : ((List.range 253).all fun i => okAt X0 (2 * i + 1)) = true := by kernel_rfl
end Go.Ev
