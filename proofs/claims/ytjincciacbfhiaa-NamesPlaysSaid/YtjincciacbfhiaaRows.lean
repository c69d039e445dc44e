/-
  No cell of these rows narrows 'for every input' (looked for: loops, veiled, ifaces, maps, wideKeys, modest, calm, conditions, laid).
  DERIVED. THE GIVEN ROWS OF THIS SEAT. 3 by the template 'for every input the law returns true; each argument reads behind the call as it read before'; 0 by the template 'total and deterministic' (their statements: YtjincciacbfhiaaTotals.lean).
  GIVEN WITH THE SEED: the statements are not yours to turn. If you find one false, say at which input.
  Laid BY PROGRAM, IN A SANDBOX (cutbox-rows.mjs): the forced cells as the released guide's own fill.sh prints them over the translation da8e21f72853ffaa… (all of the seat's roots in one cut). By AI agents, Wed Nov 11 2026. No macro, syntax, notation, axiom, sorry.
-/
import Derived.Test.YtjincciacbfhiaaChecked
import GoSem.Claim
import GoSem.ClaimJoined
import GoSem.ClaimMapViews
import Derived.JoinedTies
import Derived.KernelRfl
namespace Go.Proofs.Ytjincciacbfhiaa
/- THE CELL 'sum', in the pinned program and in every row, IS THE sha256 OF THE DUMP (.gsa) THAT YtjincciacbfhiaaProg.lean LOADS. Nothing in Lean hashes anything: it is a label: what it is worth is what the hold of that sum in a sandbox is worth. -/
noncomputable def Try.pinned : Pinned := { name := "ytjincciacbfhiaa", sum := "da8e21f72853ffaa84ad5b196f1c350206fc41b1657bc1d549c174f6773daf5c", checked := Try.checked }
namespace Rows
def none {H : Type} : Left H := { results := [], args := [] }

/-- 'tenementlaw22.NamesPlays': WHATEVER THE INPUT: true; the input reads as it did. -/
def namesPlaysSpec : ChangeSpec := { name := "namesPlays", fn := fun _ => fun
  | [d] => { results := [.lit (.bool true)], args := [d] }
  | _ => none }
def namesPlaysRow : OpenClaim := { program := "ytjincciacbfhiaa", sum := "da8e21f72853ffaa84ad5b196f1c350206fc41b1657bc1d549c174f6773daf5c", func := "tenement/tenementlaw22.NamesPlays", spec := "namesPlays", apart := false }
def NamesPlaysSaid : Prop := namesPlaysRow.holds Try.pinned (OpenSpec.ofChange namesPlaysSpec)

/-- ITS FALSE NEIGHBOUR: 'it returns false'. Refute it at one input. -/
def namesPlaysWrong : ChangeSpec := { name := "namesPlays", fn := fun _ => fun
  | [d] => { results := [.lit (.bool false)], args := [d] }
  | _ => none }
def NamesPlaysWrongFalsely : Prop := namesPlaysRow.holds Try.pinned (OpenSpec.ofChange namesPlaysWrong)

/-- 'tenementlaw22.NamesPairs': WHATEVER THE INPUT: true; the input reads as it did. -/
def namesPairsSpec : ChangeSpec := { name := "namesPairs", fn := fun _ => fun
  | [d] => { results := [.lit (.bool true)], args := [d] }
  | _ => none }
def namesPairsRow : OpenClaim := { program := "ytjincciacbfhiaa", sum := "da8e21f72853ffaa84ad5b196f1c350206fc41b1657bc1d549c174f6773daf5c", func := "tenement/tenementlaw22.NamesPairs", spec := "namesPairs", apart := false }
def NamesPairsSaid : Prop := namesPairsRow.holds Try.pinned (OpenSpec.ofChange namesPairsSpec)

/-- ITS FALSE NEIGHBOUR: 'it returns false'. Refute it at one input. -/
def namesPairsWrong : ChangeSpec := { name := "namesPairs", fn := fun _ => fun
  | [d] => { results := [.lit (.bool false)], args := [d] }
  | _ => none }
def NamesPairsWrongFalsely : Prop := namesPairsRow.holds Try.pinned (OpenSpec.ofChange namesPairsWrong)

/-- 'tenementlaw22.NamesGone': WHATEVER THE INPUT: true; the input reads as it did. -/
def namesGoneSpec : ChangeSpec := { name := "namesGone", fn := fun _ => fun
  | [d] => { results := [.lit (.bool true)], args := [d] }
  | _ => none }
def namesGoneRow : OpenClaim := { program := "ytjincciacbfhiaa", sum := "da8e21f72853ffaa84ad5b196f1c350206fc41b1657bc1d549c174f6773daf5c", func := "tenement/tenementlaw22.NamesGone", spec := "namesGone", apart := false }
def NamesGoneSaid : Prop := namesGoneRow.holds Try.pinned (OpenSpec.ofChange namesGoneSpec)

/-- ITS FALSE NEIGHBOUR: 'it returns false'. Refute it at one input. -/
def namesGoneWrong : ChangeSpec := { name := "namesGone", fn := fun _ => fun
  | [d] => { results := [.lit (.bool false)], args := [d] }
  | _ => none }
def NamesGoneWrongFalsely : Prop := namesGoneRow.holds Try.pinned (OpenSpec.ofChange namesGoneWrong)

/- THE SECOND FORM. 'bulk': how many values and letters a reading holds, each counted each time it is reached (what is shared counts as often as it is met; a slice's spare places count too). A statement '..UptoSaid' is the law's where the arguments, and the package variables that the reading takes, are together of bulk at most 1048576: NARROWER than '..Said'. Prove '..Said' where nothing that the law and all that it calls make is longer than what came in: it says more and counts as full. Else prove '..UptoSaid'. A law counts once. -/
mutual
def uptoBulk {H : Type} : DataW H → Nat
  | .lit (.string bytes) => bytes.length + 1
  | .lit _ => 1
  | .nil => 1
  | .ptr d => uptoBulk d + 1
  | .slice elems spare => uptoBulkAll elems + uptoBulkAll spare + 1
  | .agg parts => uptoBulkAll parts + 1
  | .iface _ d => uptoBulk d + 1
  | .map entries => uptoBulkEntries entries + 1
  | .held _ => 1
def uptoBulkAll {H : Type} : List (DataW H) → Nat
  | [] => 0
  | d :: r => uptoBulk d + uptoBulkAll r
def uptoBulkEntries {H : Type} : List (Lit × DataW H) → Nat
  | [] => 0
  | x :: r => uptoBulkEntry x + uptoBulkEntries r
def uptoBulkEntry {H : Type} : Lit × DataW H → Nat
  | (.string bytes, d) => bytes.length + uptoBulk d + 1
  | (_, d) => uptoBulk d + 1
 end
def uptoSmall : (H : Type) → List (DataW H) → Bool := fun _ ds => decide (uptoBulkAll ds ≤ 1048576)
def OpenSpec.upto (s : _root_.Go.ChangeSpec) : _root_.Go.OpenSpec := { _root_.Go.OpenSpec.ofChange s with cond := some uptoSmall }

/-- 'tenementlaw22.NamesPlays', WHERE WHAT IT READS IS OF BULK AT MOST 1048576: true; the input reads as it did. -/
def namesPlaysUptoRow : OpenClaim := { program := "ytjincciacbfhiaa", sum := "da8e21f72853ffaa84ad5b196f1c350206fc41b1657bc1d549c174f6773daf5c", func := "tenement/tenementlaw22.NamesPlays", spec := "namesPlays", apart := false, narrowed := true }
def NamesPlaysUptoSaid : Prop := namesPlaysUptoRow.holds Try.pinned (OpenSpec.upto namesPlaysSpec)

/-- 'tenementlaw22.NamesPairs', WHERE WHAT IT READS IS OF BULK AT MOST 1048576: true; the input reads as it did. -/
def namesPairsUptoRow : OpenClaim := { program := "ytjincciacbfhiaa", sum := "da8e21f72853ffaa84ad5b196f1c350206fc41b1657bc1d549c174f6773daf5c", func := "tenement/tenementlaw22.NamesPairs", spec := "namesPairs", apart := false, narrowed := true }
def NamesPairsUptoSaid : Prop := namesPairsUptoRow.holds Try.pinned (OpenSpec.upto namesPairsSpec)

/-- 'tenementlaw22.NamesGone', WHERE WHAT IT READS IS OF BULK AT MOST 1048576: true; the input reads as it did. -/
def namesGoneUptoRow : OpenClaim := { program := "ytjincciacbfhiaa", sum := "da8e21f72853ffaa84ad5b196f1c350206fc41b1657bc1d549c174f6773daf5c", func := "tenement/tenementlaw22.NamesGone", spec := "namesGone", apart := false, narrowed := true }
def NamesGoneUptoSaid : Prop := namesGoneUptoRow.holds Try.pinned (OpenSpec.upto namesGoneSpec)

end Rows
end Go.Proofs.Ytjincciacbfhiaa
