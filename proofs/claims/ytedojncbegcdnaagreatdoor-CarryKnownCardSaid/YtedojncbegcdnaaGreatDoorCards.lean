/-
  DERIVED. GIVEN WITH THE SEED: THE CARDS: each row of YtedojncbegcdnaaGreatDoorRows.lean that lists a variable, with what it lists TIED to the program's text (the seventh form; the later family's looks); each row that meets fmt, with fmt's text TOLD by the authors' own Lean function (tested against real Go, not proved from fmt's source: count such statements apart). THE CARD IS WHAT COUNTS. Prove the row's statement (the work); the ties are given (YtedojncbegcdnaaGreatDoorTie.lean); close each card by the builder's one call (the guide's Derived/Test/ToyasCard.lean, 'card_holds'). Laid BY PROGRAM, IN A SANDBOX (cutbox-door.mjs). By AI agents, Wed Nov 11 2026. No macro, syntax, notation, axiom, sorry.
-/
import Derived.Test.YtedojncbegcdnaaGreatDoorRows
import GoSem.ClaimSeven
namespace Go.Proofs.YtedojncbegcdnaaGreatDoor
namespace Rows

/-- THE TIED CARD OF 'tenementlaw16.CarryKnown'. -/
def carryKnownCard : Claim7 := { stood := { row := carryKnownRow, standIns := [], harness := (true, "711166b317dc60f352ae717d553ccd310e4a32a9d4774604b6c4bf31f5c993c4"), looks := false }, kinds := [], alts := [], laidByText := true, laidKinds := [.data, .pinned], laidTests := true, laidLooks := .later }
def CarryKnownCardSaid : Prop := Claim7.holds Tryz.pinned (.plain (OpenSpec.ofChange carryKnownSpec)) carryKnownCard

/-- THE TIED CARD OF 'tenementlaw16.CarryShares'. -/
def carrySharesCard : Claim7 := { stood := { row := carrySharesRow, standIns := [], harness := (true, "711166b317dc60f352ae717d553ccd310e4a32a9d4774604b6c4bf31f5c993c4"), looks := false }, kinds := [], alts := [], laidByText := true, laidKinds := [.data, .pinned], laidTests := true, laidLooks := .later }
def CarrySharesCardSaid : Prop := Claim7.holds Tryz.pinned (.plain (OpenSpec.ofChange carrySharesSpec)) carrySharesCard

/-- THE TIED CARD OF 'tenementlaw16.CarryMeans'. -/
def carryMeansCard : Claim7 := { stood := { row := carryMeansRow, standIns := [], harness := (true, "711166b317dc60f352ae717d553ccd310e4a32a9d4774604b6c4bf31f5c993c4"), looks := false }, kinds := [], alts := [], laidByText := true, laidKinds := [.data, .pinned], laidTests := true, laidLooks := .later }
def CarryMeansCardSaid : Prop := Claim7.holds Tryz.pinned (.plain (OpenSpec.ofChange carryMeansSpec)) carryMeansCard

/-- THE TIED CARD OF 'tenementlaw16.CarryTwice'. -/
def carryTwiceCard : Claim7 := { stood := { row := carryTwiceRow, standIns := [], harness := (true, "711166b317dc60f352ae717d553ccd310e4a32a9d4774604b6c4bf31f5c993c4"), looks := false }, kinds := [], alts := [], laidByText := true, laidKinds := [.data, .pinned], laidTests := true, laidLooks := .later }
def CarryTwiceCardSaid : Prop := Claim7.holds Tryz.pinned (.plain (OpenSpec.ofChange carryTwiceSpec)) carryTwiceCard

/-- THE SECOND FORM's CARD OF 'tenementlaw16.CarryKnown'. -/
def carryKnownUptoCard : Claim7 := { stood := { row := carryKnownUptoRow, standIns := [], harness := (true, "711166b317dc60f352ae717d553ccd310e4a32a9d4774604b6c4bf31f5c993c4"), looks := false }, kinds := [], alts := [], laidByText := true, laidKinds := [.data, .pinned], laidTests := true, laidLooks := .later }
def CarryKnownUptoCardSaid : Prop := Claim7.holds Tryz.pinned (.plain (OpenSpec.upto carryKnownSpec)) carryKnownUptoCard

/-- THE SECOND FORM's CARD OF 'tenementlaw16.CarryShares'. -/
def carrySharesUptoCard : Claim7 := { stood := { row := carrySharesUptoRow, standIns := [], harness := (true, "711166b317dc60f352ae717d553ccd310e4a32a9d4774604b6c4bf31f5c993c4"), looks := false }, kinds := [], alts := [], laidByText := true, laidKinds := [.data, .pinned], laidTests := true, laidLooks := .later }
def CarrySharesUptoCardSaid : Prop := Claim7.holds Tryz.pinned (.plain (OpenSpec.upto carrySharesSpec)) carrySharesUptoCard

/-- THE SECOND FORM's CARD OF 'tenementlaw16.CarryMeans'. -/
def carryMeansUptoCard : Claim7 := { stood := { row := carryMeansUptoRow, standIns := [], harness := (true, "711166b317dc60f352ae717d553ccd310e4a32a9d4774604b6c4bf31f5c993c4"), looks := false }, kinds := [], alts := [], laidByText := true, laidKinds := [.data, .pinned], laidTests := true, laidLooks := .later }
def CarryMeansUptoCardSaid : Prop := Claim7.holds Tryz.pinned (.plain (OpenSpec.upto carryMeansSpec)) carryMeansUptoCard

/-- THE SECOND FORM's CARD OF 'tenementlaw16.CarryTwice'. -/
def carryTwiceUptoCard : Claim7 := { stood := { row := carryTwiceUptoRow, standIns := [], harness := (true, "711166b317dc60f352ae717d553ccd310e4a32a9d4774604b6c4bf31f5c993c4"), looks := false }, kinds := [], alts := [], laidByText := true, laidKinds := [.data, .pinned], laidTests := true, laidLooks := .later }
def CarryTwiceUptoCardSaid : Prop := Claim7.holds Tryz.pinned (.plain (OpenSpec.upto carryTwiceSpec)) carryTwiceUptoCard
end Rows
end Go.Proofs.YtedojncbegcdnaaGreatDoor
