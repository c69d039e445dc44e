/-
  StepKnown returns true and leaves all that was there as it was. Condition: the listed package variables start as the program's text lays them (the card ties them).
  The run is the abstract evaluator (YtdigmjcicnlifaaGreatDoorAc1 and on), by the kernel.
-/
import Derived.Test.YtdigmjcicnlifaaGreatDoorTie
import Derived.Test.YtdigmjcicnlifaaGreatDoorCards
import Derived.Test.YtdigmjcicnlifaaGreatDoorOverZ
import Derived.ProofKit
import Derived.OpenShut
import Derived.LaidMore
import Derived.Lay
import Derived.SevenTiedAt
import Derived.Stop.Joined
set_option linter.unusedVariables false
namespace Go.Proofs.YtdigmjcicnlifaaGreatDoor.stepKnown
open Go.ChangeShapes Go.WideShapes Go.ChangeAt Go.RowKit

theorem named : Tryz.prog.funcNamed "tenement/tenementlaw26.StepKnown" = some 3 := by kernel_rfl
/-- The statement. -/
theorem proved : Rows.StepKnownCardSaid :=
  Claim7.holds_tied_plain_at .later [] [.data, .data, .data, .data, .pinned] true (true, "a9ebb1d0901707dc4413c7adecd7e302423fb8199abd03cff6b87441a1552815") true over (fun _ h => by cases h) (by as_aux_lemma => kernel_rfl) (fun _ h => by cases h) stepKnown_row_tie rfl ⟨rfl, rfl⟩ (by as_aux_lemma => kernel_rfl) rfl
    (fun f fn hf hfn => by
      obtain rfl : f = 3 := Option.some.inj (named.symm.trans hf) |>.symm
      obtain rfl : fn = Tryz.f3 := (Option.some.inj (Tryz.func3.symm.trans hfn)).symm
      exact ⟨by as_aux_lemma => kernel_rfl, fun j t ht => by
        rw [Tryz.params3] at ht
        simp at ht⟩)
    (by as_aux_lemma => kernel_rfl)
#print axioms proved
end Go.Proofs.YtdigmjcicnlifaaGreatDoor.stepKnown
