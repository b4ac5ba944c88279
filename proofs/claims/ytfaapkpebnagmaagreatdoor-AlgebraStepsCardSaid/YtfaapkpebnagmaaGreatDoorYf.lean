/- Proved: AlgebraSteps answers true for every input, and its input reads behind the call as it did. The variables that are listed are laid by the program's own text; beck/syntax.levels is not listed and may hold anything. No other condition. -/
import Derived.Test.YtfaapkpebnagmaaGreatDoorYd
import Derived.Test.YtfaapkpebnagmaaGreatDoorYe
namespace Go.Proofs.YtfaapkpebnagmaaGreatDoor
open Go.RowKit Go
set_option linter.unusedVariables false
set_option maxRecDepth 100000
set_option maxHeartbeats 400000000
theorem algebraSteps_holds : Rows.AlgebraStepsCardSaid := jV jU
#print axioms algebraSteps_holds
end Go.Proofs.YtfaapkpebnagmaaGreatDoor
