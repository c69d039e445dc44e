/-
  StepCalls returns true and leaves all that was there as it was. Condition: the listed package variables start as the program's text lays them (the card ties them).
  The run is the abstract evaluator (YtfjnhimdnjgakaaGreatDoorAc1 and on), by the kernel.
-/
import Derived.Test.YtfjnhimdnjgakaaGreatDoorTie
import Derived.Test.YtfjnhimdnjgakaaGreatDoorCards
import Derived.Test.YtfjnhimdnjgakaaGreatDoorOverZ
import Derived.Test.YtfjnhimdnjgakaaGreatDoorGoesZ
import Derived.ProofKit
import Derived.OpenShut
import Derived.LaidMore
import Derived.Lay
import Derived.SevenTiedAt
import Derived.Stop.Joined
set_option linter.unusedVariables false
namespace Go.Proofs.YtfjnhimdnjgakaaGreatDoor.stepCalls
open Go.ChangeShapes Go.WideShapes Go.ChangeAt Go.RowKit

theorem named : Tryz.prog.funcNamed "tenement/tenementlaw26.StepCalls" = some 3 := by kernel_rfl
/-- The statement. -/
theorem proved : Rows.StepCallsCardSaid :=
  Claim7.holds_tied_plain_at .later [] [.data, .data, .data, .data, .pinned] true (true, "0eaae392cef9508be5af3aa0fbe48fe23016176a667d13904bb01b5bfdff9fda") true over (fun _ h => by cases h) (by as_aux_lemma => kernel_rfl) (fun _ h => by cases h) stepCalls_row_tie rfl ⟨rfl, rfl⟩ (by as_aux_lemma => kernel_rfl) rfl
    (fun f fn hf hfn => by
      obtain rfl : f = 3 := Option.some.inj (named.symm.trans hf) |>.symm
      obtain rfl : fn = Tryz.f3 := (Option.some.inj (Tryz.func3.symm.trans hfn)).symm
      exact ⟨by as_aux_lemma => kernel_rfl, fun j t ht => by
        rw [Tryz.params3] at ht
        have hw : Tryz.prog.wantsStandIn 5 = false := by as_aux_lemma => kernel_rfl
        match j, ht with
        | 0, ht => cases ht; exact hw
        | 1, ht => cases ht; exact hw⟩)
    stays
#print axioms proved
end Go.Proofs.YtfjnhimdnjgakaaGreatDoor.stepCalls
