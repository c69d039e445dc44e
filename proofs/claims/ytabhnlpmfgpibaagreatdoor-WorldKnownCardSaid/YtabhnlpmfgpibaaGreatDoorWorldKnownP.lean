/-
  WorldKnown returns true and leaves all that was there as it was. Condition: the listed package variables start as the program's text lays them (the card ties them).
  The run is the abstract evaluator (YtabhnlpmfgpibaaGreatDoorAc1 and on), by the kernel.
-/
import Derived.Test.YtabhnlpmfgpibaaGreatDoorTie
import Derived.Test.YtabhnlpmfgpibaaGreatDoorCards
import Derived.Test.YtabhnlpmfgpibaaGreatDoorOverZ
import Derived.Test.YtabhnlpmfgpibaaGreatDoorGoesZ
import Derived.ProofKit
import Derived.OpenShut
import Derived.LaidMore
import Derived.Lay
import Derived.SevenTiedAt
import Derived.Stop.Joined
set_option linter.unusedVariables false
namespace Go.Proofs.YtabhnlpmfgpibaaGreatDoor.worldKnown
open Go.ChangeShapes Go.WideShapes Go.ChangeAt Go.RowKit

theorem named : Tryz.prog.funcNamed "tenement/tenementlaw27.WorldKnown" = some 3 := by kernel_rfl
/-- The statement. -/
theorem proved : Rows.WorldKnownCardSaid :=
  Claim7.holds_tied_plain_at .later [] [.data, .data, .data, .data, .pinned] true (true, "6ded8d18510f2fab49597a16b0fda6fb9df0e0e856cfe9f45594d9bd9a71725d") true over (fun _ h => by cases h) (by as_aux_lemma => kernel_rfl) (fun _ h => by cases h) worldKnown_row_tie rfl ⟨rfl, rfl⟩ (by as_aux_lemma => kernel_rfl) rfl
    (fun f fn hf hfn => by
      obtain rfl : f = 3 := Option.some.inj (named.symm.trans hf) |>.symm
      obtain rfl : fn = Tryz.f3 := (Option.some.inj (Tryz.func3.symm.trans hfn)).symm
      exact ⟨by as_aux_lemma => kernel_rfl, fun j t ht => by
        rw [Tryz.params3] at ht
        simp at ht⟩)
    stays
#print axioms proved
end Go.Proofs.YtabhnlpmfgpibaaGreatDoor.worldKnown
