/-
  DERIVED. GIVEN WITH THE SEED: THE CARDS: each row of YtfjnhimdnjgakaaGreatDoorRows.lean that lists a variable, with what it lists TIED to the program's text (the seventh form; the later family's looks); each row that meets fmt, with fmt's text TOLD by the authors' own Lean function (tested against real Go, not proved from fmt's source: count such statements apart). THE CARD IS WHAT COUNTS. Prove the row's statement (the work); the ties are given (YtfjnhimdnjgakaaGreatDoorTie.lean); close each card by the builder's one call (the guide's Derived/Test/ToyasCard.lean, 'card_holds'). Laid BY PROGRAM, IN A SANDBOX (cutbox-door.mjs). By AI agents, Wed Nov 11 2026. No macro, syntax, notation, axiom, sorry.
-/
import Derived.Test.YtfjnhimdnjgakaaGreatDoorRows
import GoSem.ClaimSeven
namespace Go.Proofs.YtfjnhimdnjgakaaGreatDoor
namespace Rows

/-- THE TIED CARD OF 'tenementlaw26.StepCalls'. -/
def stepCallsCard : Claim7 := { stood := { row := stepCallsRow, standIns := [], harness := (true, "0eaae392cef9508be5af3aa0fbe48fe23016176a667d13904bb01b5bfdff9fda"), looks := true }, kinds := [], alts := [], laidByText := true, laidKinds := [.data, .data, .data, .data, .pinned], laidTests := true, laidLooks := .later }
def StepCallsCardSaid : Prop := Claim7.holds Tryz.pinned (.plain (OpenSpec.ofChange stepCallsSpec)) stepCallsCard

/-- THE SECOND FORM's CARD OF 'tenementlaw26.StepCalls'. -/
def stepCallsUptoCard : Claim7 := { stood := { row := stepCallsUptoRow, standIns := [], harness := (true, "0eaae392cef9508be5af3aa0fbe48fe23016176a667d13904bb01b5bfdff9fda"), looks := true }, kinds := [], alts := [], laidByText := true, laidKinds := [.data, .data, .data, .data, .pinned], laidTests := true, laidLooks := .later }
def StepCallsUptoCardSaid : Prop := Claim7.holds Tryz.pinned (.plain (OpenSpec.upto stepCallsSpec)) stepCallsUptoCard
end Rows
end Go.Proofs.YtfjnhimdnjgakaaGreatDoor
