/- What the row's cells say of the program, fact by fact. -/
import Derived.Test.YtfjnhimdnjgakaaGreatDoorRows
import Derived.ProofKit
import Derived.OpenShut
import Derived.LaidMore
import Derived.Lay
import Derived.SevenTiedAt
import Derived.Stop.Joined
import Derived.KernelRfl
namespace Go.Proofs.YtfjnhimdnjgakaaGreatDoor.stepCalls
open Go.ChangeShapes Go.WideShapes Go.ChangeAt Go.RowKit
set_option maxHeartbeats 8000000 in
theorem closed : joinedFacts Tryz.pinned.checked.prog 3 Tryz.f3 Rows.stepCallsSpec Rows.stepCallsRow = true := by
  unfold joinedFacts
  simp only [Bool.and_eq_true]
  repeat' refine And.intro ?_ ?_
  all_goals as_aux_lemma => kernel_rfl
end Go.Proofs.YtfjnhimdnjgakaaGreatDoor.stepCalls
