/-
  DERIVED. GIVEN WITH THE SEED: THE CARDS: each row of YtglnfbnciopmeaaGreatDoorRows.lean that lists a variable, with what it lists TIED to the program's text (the seventh form; the later family's looks); each row that meets fmt, with fmt's text TOLD by the authors' own Lean function (tested against real Go, not proved from fmt's source: count such statements apart). THE CARD IS WHAT COUNTS. Prove the row's statement (the work); the ties are given (YtglnfbnciopmeaaGreatDoorTie.lean); close each card by the builder's one call (the guide's Derived/Test/ToyasCard.lean, 'card_holds'). Laid BY PROGRAM, IN A SANDBOX (cutbox-door.mjs). By AI agents, Wed Nov 11 2026. No macro, syntax, notation, axiom, sorry.
-/
import Derived.Test.YtglnfbnciopmeaaGreatDoorRows
import GoSem.ClaimSeven
namespace Go.Proofs.YtglnfbnciopmeaaGreatDoor
namespace Rows

/-- THE TIED CARD OF 'tenementlaw25.ActsKnown'. -/
def actsKnownCard : Claim7 := { stood := { row := actsKnownRow, standIns := [], harness := (true, "15e56df423d46c611a7ce4e476a32f3f42307bf1dad811c9e4be90574404bd42"), looks := true }, kinds := [], alts := [], laidByText := true, laidKinds := [.data, .data, .data, .data, .pinned], laidTests := true, laidLooks := .later }
def ActsKnownCardSaid : Prop := Claim7.holds Tryz.pinned (.plain (OpenSpec.ofChange actsKnownSpec)) actsKnownCard

/-- THE SECOND FORM's CARD OF 'tenementlaw25.ActsKnown'. -/
def actsKnownUptoCard : Claim7 := { stood := { row := actsKnownUptoRow, standIns := [], harness := (true, "15e56df423d46c611a7ce4e476a32f3f42307bf1dad811c9e4be90574404bd42"), looks := true }, kinds := [], alts := [], laidByText := true, laidKinds := [.data, .data, .data, .data, .pinned], laidTests := true, laidLooks := .later }
def ActsKnownUptoCardSaid : Prop := Claim7.holds Tryz.pinned (.plain (OpenSpec.upto actsKnownSpec)) actsKnownUptoCard
end Rows
end Go.Proofs.YtglnfbnciopmeaaGreatDoor
