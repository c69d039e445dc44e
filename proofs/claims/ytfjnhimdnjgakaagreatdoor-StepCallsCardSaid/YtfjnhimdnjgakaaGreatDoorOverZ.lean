/- The row holds. -/
import Derived.Test.YtfjnhimdnjgakaaGreatDoorLiftZ
import Derived.Test.YtfjnhimdnjgakaaGreatDoorClosedZ
set_option linter.unusedVariables false
namespace Go.Proofs.YtfjnhimdnjgakaaGreatDoor.stepCalls
open Go.ChangeShapes Go.WideShapes Go.ChangeAt Go.RowKit

theorem over : Rows.StepCallsSaid :=
  OpenClaim.holds_of_wide 3 Tryz.f3 rfl rfl rfl rfl rfl rfl rfl ⟨rfl, rfl, rfl, rfl, rfl⟩ rfl rfl rfl rfl rfl (by as_aux_lemma => kernel_rfl) Tryz.func3 closed
    (of_decide_eq_true (by as_aux_lemma => kernel_rfl)) (by unfold Func.isWrapper; first | (rw [if_pos (by decide +kernel)]; kernel_rfl) | (rw [if_neg (by decide +kernel)]; exact ⟨rfl, rfl⟩))
    (fun os started H enc _ => lifted os started H enc)
end Go.Proofs.YtfjnhimdnjgakaaGreatDoor.stepCalls
