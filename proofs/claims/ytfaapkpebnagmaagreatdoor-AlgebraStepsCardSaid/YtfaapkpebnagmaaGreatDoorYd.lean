/- Texts of the proof, one behind the other: Zg. -/
import Derived.Test.YtfaapkpebnagmaaGreatDoorYb
import Derived.Test.YtfaapkpebnagmaaGreatDoorYc
namespace Go.Proofs.YtfaapkpebnagmaaGreatDoor
open _root_.Go.Proofs.Tryz
open Go.RowKit Go
open Go.ChangeShapes Go.WideShapes Go.ChangeAt
set_option linter.unusedVariables false
set_option maxRecDepth 100000
set_option maxHeartbeats 400000000
theorem jU : Rows.AlgebraStepsSaid :=
 OpenClaim.holds_of_wide 3 f3 rfl rfl rfl rfl rfl rfl rfl ⟨rfl,rfl,rfl,rfl,rfl⟩ rfl rfl rfl rfl rfl (by as_aux_lemma => kernel_rfl) func3 iK
  (of_decide_eq_true (by as_aux_lemma => kernel_rfl)) (by unfold Func.isWrapper; first | (rw [if_pos dk]; kernel_rfl) | (rw [if_neg dk]; exact ⟨rfl,rfl⟩))
  (fun os started H enc _ => iJ os started H enc)
end Go.Proofs.YtfaapkpebnagmaaGreatDoor
