/-
  NARROWER THAN 'FOR EVERY INPUT', by the rows' own cells (each row's printed sentence says how): CarryKnown: laid · CarryShares: laid · CarryMeans: loops, laid · CarryTwice: loops, laid.
  DERIVED. THE GIVEN ROWS OF THIS SEAT. 4 by the template 'for every input the law returns true; each argument reads behind the call as it read before'; 0 by the template 'total and deterministic' (their statements: YtedojncbegcdnaaGreatDoorTotals.lean).
  GIVEN WITH THE SEED: the statements are not yours to turn. If you find one false, say at which input.
  Laid BY PROGRAM, IN A SANDBOX (cutbox-rows.mjs): the forced cells as the released guide's own fill.sh prints them over the translation d1da7a7b13551ed5… (all of the seat's roots in one cut). By AI agents, Wed Nov 11 2026. No macro, syntax, notation, axiom, sorry.
-/
import Derived.Test.YtedojncbegcdnaaGreatDoorChecked
import GoSem.PinnedTables
import GoSem.Claim
import GoSem.ClaimJoined
import GoSem.ClaimMapViews
import Derived.JoinedTies
import Derived.KernelRfl
namespace Go.Proofs.YtedojncbegcdnaaGreatDoor
/- THE CELL 'sum', in the pinned program and in every row, IS THE sha256 OF THE DUMP (.gsa) THAT YtedojncbegcdnaaGreatDoorProg.lean LOADS. Nothing in Lean hashes anything: it is a label: what it is worth is what the hold of that sum in a sandbox is worth. -/
noncomputable def Tryz.pinned : Pinned := { name := "ytedojncbegcdnaagreatdoor", sum := "d1da7a7b13551ed5a6072ce5289aba5c5c0a72a5eb6c5af519b4617b3c42ee60", checked := Tryz.checked }
namespace Rows
def none {H : Type} : Left H := { results := [], args := [] }

/- WHAT THE LISTED PACKAGE-LEVEL VARIABLES READ AS WHEN THE CALL BEGINS. Each datum BY PROGRAM (the guide's laid-datum.mjs) off the statement by which the dump's own 'gosem.cut.vars' lays the variable. In a bare row this is a premise. The card (YtedojncbegcdnaaGreatDoorCards.lean) ties it to the program's text. -/
def laid_unicode_utf8_acceptRanges {H : Type} : DataW H := .agg [.agg [.lit (.int .u8 128), .lit (.int .u8 191)], .agg [.lit (.int .u8 160), .lit (.int .u8 191)], .agg [.lit (.int .u8 128), .lit (.int .u8 159)], .agg [.lit (.int .u8 144), .lit (.int .u8 191)], .agg [.lit (.int .u8 128), .lit (.int .u8 143)], .agg [.lit (.int .u8 0), .lit (.int .u8 0)], .agg [.lit (.int .u8 0), .lit (.int .u8 0)], .agg [.lit (.int .u8 0), .lit (.int .u8 0)], .agg [.lit (.int .u8 0), .lit (.int .u8 0)], .agg [.lit (.int .u8 0), .lit (.int .u8 0)], .agg [.lit (.int .u8 0), .lit (.int .u8 0)], .agg [.lit (.int .u8 0), .lit (.int .u8 0)], .agg [.lit (.int .u8 0), .lit (.int .u8 0)], .agg [.lit (.int .u8 0), .lit (.int .u8 0)], .agg [.lit (.int .u8 0), .lit (.int .u8 0)], .agg [.lit (.int .u8 0), .lit (.int .u8 0)]]
/-- One of Go's own tables, pinned by name: the form's constant. -/
def laid_unicode_utf8_first : DataW Unit := Go.Pinned.utf8First

/-- 'tenementlaw16.CarryKnown': WHATEVER THE INPUT: true; the input reads as it did. -/
def carryKnownSpec : ChangeSpec := { name := "carryKnown", fn := fun _ => fun
  | [] => { results := [.lit (.bool true)], args := [] }
  | _ => none }
def carryKnownRow : OpenClaim := { program := "ytedojncbegcdnaagreatdoor", sum := "d1da7a7b13551ed5a6072ce5289aba5c5c0a72a5eb6c5af519b4617b3c42ee60", func := "tenement/tenementlaw16.CarryKnown", spec := "carryKnown", unfollowed := true, recurses := true, named := ["unicode/utf8.first", "unicode/utf8.acceptRanges"], apart := false, laid := [("unicode/utf8.acceptRanges", laid_unicode_utf8_acceptRanges), ("unicode/utf8.first", laid_unicode_utf8_first)] }
def CarryKnownSaid : Prop := carryKnownRow.holds Tryz.pinned (OpenSpec.ofChange carryKnownSpec)

/-- ITS FALSE NEIGHBOUR: 'it returns false'. Refute it at one input. -/
def carryKnownWrong : ChangeSpec := { name := "carryKnown", fn := fun _ => fun
  | [] => { results := [.lit (.bool false)], args := [] }
  | _ => none }
def CarryKnownWrongFalsely : Prop := carryKnownRow.holds Tryz.pinned (OpenSpec.ofChange carryKnownWrong)

/-- 'tenementlaw16.CarryShares': WHATEVER THE INPUT: true; the input reads as it did. -/
def carrySharesSpec : ChangeSpec := { name := "carryShares", fn := fun _ => fun
  | [d1, d2] => { results := [.lit (.bool true)], args := [d1, d2] }
  | _ => none }
def carrySharesRow : OpenClaim := { program := "ytedojncbegcdnaagreatdoor", sum := "d1da7a7b13551ed5a6072ce5289aba5c5c0a72a5eb6c5af519b4617b3c42ee60", func := "tenement/tenementlaw16.CarryShares", spec := "carryShares", unfollowed := true, recurses := true, named := ["unicode/utf8.first", "unicode/utf8.acceptRanges"], apart := false, laid := [("unicode/utf8.acceptRanges", laid_unicode_utf8_acceptRanges), ("unicode/utf8.first", laid_unicode_utf8_first)] }
def CarrySharesSaid : Prop := carrySharesRow.holds Tryz.pinned (OpenSpec.ofChange carrySharesSpec)

/-- ITS FALSE NEIGHBOUR: 'it returns false'. Refute it at one input. -/
def carrySharesWrong : ChangeSpec := { name := "carryShares", fn := fun _ => fun
  | [d1, d2] => { results := [.lit (.bool false)], args := [d1, d2] }
  | _ => none }
def CarrySharesWrongFalsely : Prop := carrySharesRow.holds Tryz.pinned (OpenSpec.ofChange carrySharesWrong)

/-- 'tenementlaw16.CarryMeans': WHATEVER THE INPUT: true; the input reads as it did. -/
def carryMeansSpec : ChangeSpec := { name := "carryMeans", fn := fun _ => fun
  | [d1, d2] => { results := [.lit (.bool true)], args := [d1, d2] }
  | _ => none }
def carryMeansRow : OpenClaim := { program := "ytedojncbegcdnaagreatdoor", sum := "d1da7a7b13551ed5a6072ce5289aba5c5c0a72a5eb6c5af519b4617b3c42ee60", func := "tenement/tenementlaw16.CarryMeans", spec := "carryMeans", unfollowed := true, recurses := true, named := ["unicode/utf8.first", "unicode/utf8.acceptRanges"], loops := true, apart := false, laid := [("unicode/utf8.acceptRanges", laid_unicode_utf8_acceptRanges), ("unicode/utf8.first", laid_unicode_utf8_first)] }
def CarryMeansSaid : Prop := carryMeansRow.holds Tryz.pinned (OpenSpec.ofChange carryMeansSpec)

/-- ITS FALSE NEIGHBOUR: 'it returns false'. Refute it at one input. -/
def carryMeansWrong : ChangeSpec := { name := "carryMeans", fn := fun _ => fun
  | [d1, d2] => { results := [.lit (.bool false)], args := [d1, d2] }
  | _ => none }
def CarryMeansWrongFalsely : Prop := carryMeansRow.holds Tryz.pinned (OpenSpec.ofChange carryMeansWrong)

/-- 'tenementlaw16.CarryTwice': WHATEVER THE INPUT: true; the input reads as it did. -/
def carryTwiceSpec : ChangeSpec := { name := "carryTwice", fn := fun _ => fun
  | [d1, d2] => { results := [.lit (.bool true)], args := [d1, d2] }
  | _ => none }
def carryTwiceRow : OpenClaim := { program := "ytedojncbegcdnaagreatdoor", sum := "d1da7a7b13551ed5a6072ce5289aba5c5c0a72a5eb6c5af519b4617b3c42ee60", func := "tenement/tenementlaw16.CarryTwice", spec := "carryTwice", unfollowed := true, recurses := true, named := ["unicode/utf8.first", "unicode/utf8.acceptRanges"], loops := true, apart := false, laid := [("unicode/utf8.acceptRanges", laid_unicode_utf8_acceptRanges), ("unicode/utf8.first", laid_unicode_utf8_first)] }
def CarryTwiceSaid : Prop := carryTwiceRow.holds Tryz.pinned (OpenSpec.ofChange carryTwiceSpec)

/-- ITS FALSE NEIGHBOUR: 'it returns false'. Refute it at one input. -/
def carryTwiceWrong : ChangeSpec := { name := "carryTwice", fn := fun _ => fun
  | [d1, d2] => { results := [.lit (.bool false)], args := [d1, d2] }
  | _ => none }
def CarryTwiceWrongFalsely : Prop := carryTwiceRow.holds Tryz.pinned (OpenSpec.ofChange carryTwiceWrong)

/- THE SECOND FORM. 'bulk': how many values and letters a reading holds, each counted each time it is reached (what is shared counts as often as it is met; a slice's spare places count too). A statement '..UptoSaid' is the law's where the arguments, and the package variables that the reading takes, are together of bulk at most 1048576: NARROWER than '..Said'. Prove '..Said' where nothing that the law and all that it calls make is longer than what came in: it says more and counts as full. Else prove '..UptoSaid'. A law counts once. -/
mutual
def uptoBulk {H : Type} : DataW H → Nat
  | .lit (.string bytes) => bytes.length + 1
  | .lit _ => 1
  | .nil => 1
  | .ptr d => uptoBulk d + 1
  | .slice elems spare => uptoBulkAll elems + uptoBulkAll spare + 1
  | .agg parts => uptoBulkAll parts + 1
  | .iface _ d => uptoBulk d + 1
  | .map entries => uptoBulkEntries entries + 1
  | .held _ => 1
def uptoBulkAll {H : Type} : List (DataW H) → Nat
  | [] => 0
  | d :: r => uptoBulk d + uptoBulkAll r
def uptoBulkEntries {H : Type} : List (Lit × DataW H) → Nat
  | [] => 0
  | x :: r => uptoBulkEntry x + uptoBulkEntries r
def uptoBulkEntry {H : Type} : Lit × DataW H → Nat
  | (.string bytes, d) => bytes.length + uptoBulk d + 1
  | (_, d) => uptoBulk d + 1
 end
def uptoSmall : (H : Type) → List (DataW H) → Bool := fun _ ds => decide (uptoBulkAll ds ≤ 1048576)
def OpenSpec.upto (s : _root_.Go.ChangeSpec) : _root_.Go.OpenSpec := { _root_.Go.OpenSpec.ofChange s with cond := some uptoSmall }

/-- 'tenementlaw16.CarryKnown', WHERE WHAT IT READS IS OF BULK AT MOST 1048576: true; the input reads as it did. -/
def carryKnownUptoRow : OpenClaim := { program := "ytedojncbegcdnaagreatdoor", sum := "d1da7a7b13551ed5a6072ce5289aba5c5c0a72a5eb6c5af519b4617b3c42ee60", func := "tenement/tenementlaw16.CarryKnown", spec := "carryKnown", unfollowed := true, recurses := true, named := ["unicode/utf8.first", "unicode/utf8.acceptRanges"], apart := false, laid := [("unicode/utf8.acceptRanges", laid_unicode_utf8_acceptRanges), ("unicode/utf8.first", laid_unicode_utf8_first)], narrowed := true }
def CarryKnownUptoSaid : Prop := carryKnownUptoRow.holds Tryz.pinned (OpenSpec.upto carryKnownSpec)

/-- 'tenementlaw16.CarryShares', WHERE WHAT IT READS IS OF BULK AT MOST 1048576: true; the input reads as it did. -/
def carrySharesUptoRow : OpenClaim := { program := "ytedojncbegcdnaagreatdoor", sum := "d1da7a7b13551ed5a6072ce5289aba5c5c0a72a5eb6c5af519b4617b3c42ee60", func := "tenement/tenementlaw16.CarryShares", spec := "carryShares", unfollowed := true, recurses := true, named := ["unicode/utf8.first", "unicode/utf8.acceptRanges"], apart := false, laid := [("unicode/utf8.acceptRanges", laid_unicode_utf8_acceptRanges), ("unicode/utf8.first", laid_unicode_utf8_first)], narrowed := true }
def CarrySharesUptoSaid : Prop := carrySharesUptoRow.holds Tryz.pinned (OpenSpec.upto carrySharesSpec)

/-- 'tenementlaw16.CarryMeans', WHERE WHAT IT READS IS OF BULK AT MOST 1048576: true; the input reads as it did. -/
def carryMeansUptoRow : OpenClaim := { program := "ytedojncbegcdnaagreatdoor", sum := "d1da7a7b13551ed5a6072ce5289aba5c5c0a72a5eb6c5af519b4617b3c42ee60", func := "tenement/tenementlaw16.CarryMeans", spec := "carryMeans", unfollowed := true, recurses := true, named := ["unicode/utf8.first", "unicode/utf8.acceptRanges"], loops := true, apart := false, laid := [("unicode/utf8.acceptRanges", laid_unicode_utf8_acceptRanges), ("unicode/utf8.first", laid_unicode_utf8_first)], narrowed := true }
def CarryMeansUptoSaid : Prop := carryMeansUptoRow.holds Tryz.pinned (OpenSpec.upto carryMeansSpec)

/-- 'tenementlaw16.CarryTwice', WHERE WHAT IT READS IS OF BULK AT MOST 1048576: true; the input reads as it did. -/
def carryTwiceUptoRow : OpenClaim := { program := "ytedojncbegcdnaagreatdoor", sum := "d1da7a7b13551ed5a6072ce5289aba5c5c0a72a5eb6c5af519b4617b3c42ee60", func := "tenement/tenementlaw16.CarryTwice", spec := "carryTwice", unfollowed := true, recurses := true, named := ["unicode/utf8.first", "unicode/utf8.acceptRanges"], loops := true, apart := false, laid := [("unicode/utf8.acceptRanges", laid_unicode_utf8_acceptRanges), ("unicode/utf8.first", laid_unicode_utf8_first)], narrowed := true }
def CarryTwiceUptoSaid : Prop := carryTwiceUptoRow.holds Tryz.pinned (OpenSpec.upto carryTwiceSpec)

end Rows
end Go.Proofs.YtedojncbegcdnaaGreatDoor
