/-
  DERIVED. GIVEN WITH THE SEED: THE CARDS: each row of YtdigmjcicnlifaaGreatDoorRows.lean that lists a variable, with what it lists TIED to the program's text (the seventh form; the later family's looks); each row that meets fmt, with fmt's text TOLD by the authors' own Lean function (tested against real Go, not proved from fmt's source: count such statements apart). THE CARD IS WHAT COUNTS. Prove the row's statement (the work); the ties are given (YtdigmjcicnlifaaGreatDoorTie.lean); close each card by the builder's one call (the guide's Derived/Test/ToyasCard.lean, 'card_holds'). Laid BY PROGRAM, IN A SANDBOX (cutbox-door.mjs). By AI agents, Wed Nov 11 2026. No macro, syntax, notation, axiom, sorry.
-/
import Derived.Test.YtdigmjcicnlifaaGreatDoorRows
import GoSem.ClaimSeven
namespace Go.Proofs.YtdigmjcicnlifaaGreatDoor
namespace Rows

/-- THE TIED CARD OF 'tenementlaw26.StepKnown'. -/
def stepKnownCard : Claim7 := { stood := { row := stepKnownRow, standIns := [], harness := (true, "a9ebb1d0901707dc4413c7adecd7e302423fb8199abd03cff6b87441a1552815"), looks := true }, kinds := [], alts := [], laidByText := true, laidKinds := [.data, .data, .data, .data, .pinned], laidTests := true, laidLooks := .later }
def StepKnownCardSaid : Prop := Claim7.holds Tryz.pinned (.plain (OpenSpec.ofChange stepKnownSpec)) stepKnownCard

/-- THE SECOND FORM's CARD OF 'tenementlaw26.StepKnown'. -/
def stepKnownUptoCard : Claim7 := { stood := { row := stepKnownUptoRow, standIns := [], harness := (true, "a9ebb1d0901707dc4413c7adecd7e302423fb8199abd03cff6b87441a1552815"), looks := true }, kinds := [], alts := [], laidByText := true, laidKinds := [.data, .data, .data, .data, .pinned], laidTests := true, laidLooks := .later }
def StepKnownUptoCardSaid : Prop := Claim7.holds Tryz.pinned (.plain (OpenSpec.upto stepKnownSpec)) stepKnownUptoCard
end Rows
end Go.Proofs.YtdigmjcicnlifaaGreatDoor
