/-
  DERIVED. GIVEN WITH THE SEED: THE CARDS: each row of YtabhnlpmfgpibaaGreatDoorRows.lean that lists a variable, with what it lists TIED to the program's text (the seventh form; the later family's looks); each row that meets fmt, with fmt's text TOLD by the authors' own Lean function (tested against real Go, not proved from fmt's source: count such statements apart). THE CARD IS WHAT COUNTS. Prove the row's statement (the work); the ties are given (YtabhnlpmfgpibaaGreatDoorTie.lean); close each card by the builder's one call (the guide's Derived/Test/ToyasCard.lean, 'card_holds'). Laid BY PROGRAM, IN A SANDBOX (cutbox-door.mjs). By AI agents, Wed Nov 11 2026. No macro, syntax, notation, axiom, sorry.
-/
import Derived.Test.YtabhnlpmfgpibaaGreatDoorRows
import GoSem.ClaimSeven
namespace Go.Proofs.YtabhnlpmfgpibaaGreatDoor
namespace Rows

/-- THE TIED CARD OF 'tenementlaw27.WorldKnown'. -/
def worldKnownCard : Claim7 := { stood := { row := worldKnownRow, standIns := [], harness := (true, "6ded8d18510f2fab49597a16b0fda6fb9df0e0e856cfe9f45594d9bd9a71725d"), looks := true }, kinds := [], alts := [], laidByText := true, laidKinds := [.data, .data, .data, .data, .pinned], laidTests := true, laidLooks := .later }
def WorldKnownCardSaid : Prop := Claim7.holds Tryz.pinned (.plain (OpenSpec.ofChange worldKnownSpec)) worldKnownCard

/-- THE SECOND FORM's CARD OF 'tenementlaw27.WorldKnown'. -/
def worldKnownUptoCard : Claim7 := { stood := { row := worldKnownUptoRow, standIns := [], harness := (true, "6ded8d18510f2fab49597a16b0fda6fb9df0e0e856cfe9f45594d9bd9a71725d"), looks := true }, kinds := [], alts := [], laidByText := true, laidKinds := [.data, .data, .data, .data, .pinned], laidTests := true, laidLooks := .later }
def WorldKnownUptoCardSaid : Prop := Claim7.holds Tryz.pinned (.plain (OpenSpec.upto worldKnownSpec)) worldKnownUptoCard
end Rows
end Go.Proofs.YtabhnlpmfgpibaaGreatDoor
