/-
  No cell of these rows narrows 'for every input' (looked for: loops, veiled, ifaces, maps, wideKeys, modest, calm, conditions, laid).
  DERIVED. THE GIVEN ROWS OF THIS SEAT. 12 by the template 'for every input the law returns true; each argument reads behind the call as it read before'; 0 by the template 'total and deterministic' (their statements: YtempfmkicpifkaaTotals.lean).
  GIVEN WITH THE SEED: the statements are not yours to turn. If you find one false, say at which input.
  Laid BY PROGRAM, IN A SANDBOX (cutbox-rows.mjs): the forced cells as the released guide's own fill.sh prints them over the translation 6f4486dbb8cc5ae9… (all of the seat's roots in one cut). By AI agents, Wed Nov 11 2026. No macro, syntax, notation, axiom, sorry.
-/
import Derived.Test.YtempfmkicpifkaaChecked
import GoSem.Claim
import GoSem.ClaimJoined
import GoSem.ClaimMapViews
import Derived.JoinedTies
import Derived.KernelRfl
namespace Go.Proofs.Ytempfmkicpifkaa
/- THE CELL 'sum', in the pinned program and in every row, IS THE sha256 OF THE DUMP (.gsa) THAT YtempfmkicpifkaaProg.lean LOADS. Nothing in Lean hashes anything: it is a label: what it is worth is what the hold of that sum in a sandbox is worth. -/
noncomputable def Try.pinned : Pinned := { name := "ytempfmkicpifkaa", sum := "6f4486dbb8cc5ae995a24cc63dcd5af1dd2816a7ad5f4938e8c4f230221bb18f", checked := Try.checked }
namespace Rows
def none {H : Type} : Left H := { results := [], args := [] }

/-- 'tenementlaw24.ProcStack': WHATEVER THE INPUT: true; the input reads as it did. -/
def procStackSpec : ChangeSpec := { name := "procStack", fn := fun _ => fun
  | [d1, d2] => { results := [.lit (.bool true)], args := [d1, d2] }
  | _ => none }
def procStackRow : OpenClaim := { program := "ytempfmkicpifkaa", sum := "6f4486dbb8cc5ae995a24cc63dcd5af1dd2816a7ad5f4938e8c4f230221bb18f", func := "tenement/tenementlaw24.ProcStack", spec := "procStack", apart := false }
def ProcStackSaid : Prop := procStackRow.holds Try.pinned (OpenSpec.ofChange procStackSpec)

/-- ITS FALSE NEIGHBOUR: 'it returns false'. Refute it at one input. -/
def procStackWrong : ChangeSpec := { name := "procStack", fn := fun _ => fun
  | [d1, d2] => { results := [.lit (.bool false)], args := [d1, d2] }
  | _ => none }
def ProcStackWrongFalsely : Prop := procStackRow.holds Try.pinned (OpenSpec.ofChange procStackWrong)

/-- 'tenementlaw24.ProcKnown': WHATEVER THE INPUT: true; the input reads as it did. -/
def procKnownSpec : ChangeSpec := { name := "procKnown", fn := fun _ => fun
  | [] => { results := [.lit (.bool true)], args := [] }
  | _ => none }
def procKnownRow : OpenClaim := { program := "ytempfmkicpifkaa", sum := "6f4486dbb8cc5ae995a24cc63dcd5af1dd2816a7ad5f4938e8c4f230221bb18f", func := "tenement/tenementlaw24.ProcKnown", spec := "procKnown", apart := false }
def ProcKnownSaid : Prop := procKnownRow.holds Try.pinned (OpenSpec.ofChange procKnownSpec)

/-- ITS FALSE NEIGHBOUR: 'it returns false'. Refute it at one input. -/
def procKnownWrong : ChangeSpec := { name := "procKnown", fn := fun _ => fun
  | [] => { results := [.lit (.bool false)], args := [] }
  | _ => none }
def ProcKnownWrongFalsely : Prop := procKnownRow.holds Try.pinned (OpenSpec.ofChange procKnownWrong)

/-- 'tenementlaw15.HeapGives': WHATEVER THE INPUT: true; the input reads as it did. -/
def heapGivesSpec : ChangeSpec := { name := "heapGives", fn := fun _ => fun
  | [d1, d2] => { results := [.lit (.bool true)], args := [d1, d2] }
  | _ => none }
def heapGivesRow : OpenClaim := { program := "ytempfmkicpifkaa", sum := "6f4486dbb8cc5ae995a24cc63dcd5af1dd2816a7ad5f4938e8c4f230221bb18f", func := "tenement/tenementlaw15.HeapGives", spec := "heapGives", apart := false }
def HeapGivesSaid : Prop := heapGivesRow.holds Try.pinned (OpenSpec.ofChange heapGivesSpec)

/-- ITS FALSE NEIGHBOUR: 'it returns false'. Refute it at one input. -/
def heapGivesWrong : ChangeSpec := { name := "heapGives", fn := fun _ => fun
  | [d1, d2] => { results := [.lit (.bool false)], args := [d1, d2] }
  | _ => none }
def HeapGivesWrongFalsely : Prop := heapGivesRow.holds Try.pinned (OpenSpec.ofChange heapGivesWrong)

/-- 'tenementlaw15.HeapLive': WHATEVER THE INPUT: true; the input reads as it did. -/
def heapLiveSpec : ChangeSpec := { name := "heapLive", fn := fun _ => fun
  | [d1, d2, d3] => { results := [.lit (.bool true)], args := [d1, d2, d3] }
  | _ => none }
def heapLiveRow : OpenClaim := { program := "ytempfmkicpifkaa", sum := "6f4486dbb8cc5ae995a24cc63dcd5af1dd2816a7ad5f4938e8c4f230221bb18f", func := "tenement/tenementlaw15.HeapLive", spec := "heapLive", apart := false }
def HeapLiveSaid : Prop := heapLiveRow.holds Try.pinned (OpenSpec.ofChange heapLiveSpec)

/-- ITS FALSE NEIGHBOUR: 'it returns false'. Refute it at one input. -/
def heapLiveWrong : ChangeSpec := { name := "heapLive", fn := fun _ => fun
  | [d1, d2, d3] => { results := [.lit (.bool false)], args := [d1, d2, d3] }
  | _ => none }
def HeapLiveWrongFalsely : Prop := heapLiveRow.holds Try.pinned (OpenSpec.ofChange heapLiveWrong)

/-- 'tenementlaw21.TiesKnown': WHATEVER THE INPUT: true; the input reads as it did. -/
def tiesKnownSpec : ChangeSpec := { name := "tiesKnown", fn := fun _ => fun
  | [] => { results := [.lit (.bool true)], args := [] }
  | _ => none }
def tiesKnownRow : OpenClaim := { program := "ytempfmkicpifkaa", sum := "6f4486dbb8cc5ae995a24cc63dcd5af1dd2816a7ad5f4938e8c4f230221bb18f", func := "tenement/tenementlaw21.TiesKnown", spec := "tiesKnown", unfollowed := true, recurses := true, apart := false }
def TiesKnownSaid : Prop := tiesKnownRow.holds Try.pinned (OpenSpec.ofChange tiesKnownSpec)

/-- ITS FALSE NEIGHBOUR: 'it returns false'. Refute it at one input. -/
def tiesKnownWrong : ChangeSpec := { name := "tiesKnown", fn := fun _ => fun
  | [] => { results := [.lit (.bool false)], args := [] }
  | _ => none }
def TiesKnownWrongFalsely : Prop := tiesKnownRow.holds Try.pinned (OpenSpec.ofChange tiesKnownWrong)

/-- 'tenementlaw21.TiesPlays': WHATEVER THE INPUT: true; the input reads as it did. -/
def tiesPlaysSpec : ChangeSpec := { name := "tiesPlays", fn := fun _ => fun
  | [d] => { results := [.lit (.bool true)], args := [d] }
  | _ => none }
def tiesPlaysRow : OpenClaim := { program := "ytempfmkicpifkaa", sum := "6f4486dbb8cc5ae995a24cc63dcd5af1dd2816a7ad5f4938e8c4f230221bb18f", func := "tenement/tenementlaw21.TiesPlays", spec := "tiesPlays", unfollowed := true, recurses := true, apart := false }
def TiesPlaysSaid : Prop := tiesPlaysRow.holds Try.pinned (OpenSpec.ofChange tiesPlaysSpec)

/-- ITS FALSE NEIGHBOUR: 'it returns false'. Refute it at one input. -/
def tiesPlaysWrong : ChangeSpec := { name := "tiesPlays", fn := fun _ => fun
  | [d] => { results := [.lit (.bool false)], args := [d] }
  | _ => none }
def TiesPlaysWrongFalsely : Prop := tiesPlaysRow.holds Try.pinned (OpenSpec.ofChange tiesPlaysWrong)

/-- 'tenementlaw21.TiesBoth': WHATEVER THE INPUT: true; the input reads as it did. -/
def tiesBothSpec : ChangeSpec := { name := "tiesBoth", fn := fun _ => fun
  | [d] => { results := [.lit (.bool true)], args := [d] }
  | _ => none }
def tiesBothRow : OpenClaim := { program := "ytempfmkicpifkaa", sum := "6f4486dbb8cc5ae995a24cc63dcd5af1dd2816a7ad5f4938e8c4f230221bb18f", func := "tenement/tenementlaw21.TiesBoth", spec := "tiesBoth", unfollowed := true, recurses := true, apart := false }
def TiesBothSaid : Prop := tiesBothRow.holds Try.pinned (OpenSpec.ofChange tiesBothSpec)

/-- ITS FALSE NEIGHBOUR: 'it returns false'. Refute it at one input. -/
def tiesBothWrong : ChangeSpec := { name := "tiesBoth", fn := fun _ => fun
  | [d] => { results := [.lit (.bool false)], args := [d] }
  | _ => none }
def TiesBothWrongFalsely : Prop := tiesBothRow.holds Try.pinned (OpenSpec.ofChange tiesBothWrong)

/-- 'tenementlaw11.StoreLooks': WHATEVER THE INPUT: true; the input reads as it did. -/
def storeLooksSpec : ChangeSpec := { name := "storeLooks", fn := fun _ => fun
  | [d1, d2, d3] => { results := [.lit (.bool true)], args := [d1, d2, d3] }
  | _ => none }
def storeLooksRow : OpenClaim := { program := "ytempfmkicpifkaa", sum := "6f4486dbb8cc5ae995a24cc63dcd5af1dd2816a7ad5f4938e8c4f230221bb18f", func := "tenement/tenementlaw11.StoreLooks", spec := "storeLooks", unfollowed := true, recurses := true, apart := false }
def StoreLooksSaid : Prop := storeLooksRow.holds Try.pinned (OpenSpec.ofChange storeLooksSpec)

/-- ITS FALSE NEIGHBOUR: 'it returns false'. Refute it at one input. -/
def storeLooksWrong : ChangeSpec := { name := "storeLooks", fn := fun _ => fun
  | [d1, d2, d3] => { results := [.lit (.bool false)], args := [d1, d2, d3] }
  | _ => none }
def StoreLooksWrongFalsely : Prop := storeLooksRow.holds Try.pinned (OpenSpec.ofChange storeLooksWrong)

/-- 'tenementlaw11.StoreTight': WHATEVER THE INPUT: true; the input reads as it did. -/
def storeTightSpec : ChangeSpec := { name := "storeTight", fn := fun _ => fun
  | [d1, d2, d3] => { results := [.lit (.bool true)], args := [d1, d2, d3] }
  | _ => none }
def storeTightRow : OpenClaim := { program := "ytempfmkicpifkaa", sum := "6f4486dbb8cc5ae995a24cc63dcd5af1dd2816a7ad5f4938e8c4f230221bb18f", func := "tenement/tenementlaw11.StoreTight", spec := "storeTight", unfollowed := true, recurses := true, apart := false }
def StoreTightSaid : Prop := storeTightRow.holds Try.pinned (OpenSpec.ofChange storeTightSpec)

/-- ITS FALSE NEIGHBOUR: 'it returns false'. Refute it at one input. -/
def storeTightWrong : ChangeSpec := { name := "storeTight", fn := fun _ => fun
  | [d1, d2, d3] => { results := [.lit (.bool false)], args := [d1, d2, d3] }
  | _ => none }
def StoreTightWrongFalsely : Prop := storeTightRow.holds Try.pinned (OpenSpec.ofChange storeTightWrong)

/-- 'tenementlaw11.StoreKnown': WHATEVER THE INPUT: true; the input reads as it did. -/
def storeKnownSpec : ChangeSpec := { name := "storeKnown", fn := fun _ => fun
  | [] => { results := [.lit (.bool true)], args := [] }
  | _ => none }
def storeKnownRow : OpenClaim := { program := "ytempfmkicpifkaa", sum := "6f4486dbb8cc5ae995a24cc63dcd5af1dd2816a7ad5f4938e8c4f230221bb18f", func := "tenement/tenementlaw11.StoreKnown", spec := "storeKnown", unfollowed := true, recurses := true, apart := false }
def StoreKnownSaid : Prop := storeKnownRow.holds Try.pinned (OpenSpec.ofChange storeKnownSpec)

/-- ITS FALSE NEIGHBOUR: 'it returns false'. Refute it at one input. -/
def storeKnownWrong : ChangeSpec := { name := "storeKnown", fn := fun _ => fun
  | [] => { results := [.lit (.bool false)], args := [] }
  | _ => none }
def StoreKnownWrongFalsely : Prop := storeKnownRow.holds Try.pinned (OpenSpec.ofChange storeKnownWrong)

/-- 'tenementlaw11.StoreCounts': WHATEVER THE INPUT: true; the input reads as it did. -/
def storeCountsSpec : ChangeSpec := { name := "storeCounts", fn := fun _ => fun
  | [d] => { results := [.lit (.bool true)], args := [d] }
  | _ => none }
def storeCountsRow : OpenClaim := { program := "ytempfmkicpifkaa", sum := "6f4486dbb8cc5ae995a24cc63dcd5af1dd2816a7ad5f4938e8c4f230221bb18f", func := "tenement/tenementlaw11.StoreCounts", spec := "storeCounts", unfollowed := true, recurses := true, apart := false }
def StoreCountsSaid : Prop := storeCountsRow.holds Try.pinned (OpenSpec.ofChange storeCountsSpec)

/-- ITS FALSE NEIGHBOUR: 'it returns false'. Refute it at one input. -/
def storeCountsWrong : ChangeSpec := { name := "storeCounts", fn := fun _ => fun
  | [d] => { results := [.lit (.bool false)], args := [d] }
  | _ => none }
def StoreCountsWrongFalsely : Prop := storeCountsRow.holds Try.pinned (OpenSpec.ofChange storeCountsWrong)

/-- 'tenementlaw11.StorePlays': WHATEVER THE INPUT: true; the input reads as it did. -/
def storePlaysSpec : ChangeSpec := { name := "storePlays", fn := fun _ => fun
  | [d1, d2] => { results := [.lit (.bool true)], args := [d1, d2] }
  | _ => none }
def storePlaysRow : OpenClaim := { program := "ytempfmkicpifkaa", sum := "6f4486dbb8cc5ae995a24cc63dcd5af1dd2816a7ad5f4938e8c4f230221bb18f", func := "tenement/tenementlaw11.StorePlays", spec := "storePlays", unfollowed := true, recurses := true, apart := false }
def StorePlaysSaid : Prop := storePlaysRow.holds Try.pinned (OpenSpec.ofChange storePlaysSpec)

/-- ITS FALSE NEIGHBOUR: 'it returns false'. Refute it at one input. -/
def storePlaysWrong : ChangeSpec := { name := "storePlays", fn := fun _ => fun
  | [d1, d2] => { results := [.lit (.bool false)], args := [d1, d2] }
  | _ => none }
def StorePlaysWrongFalsely : Prop := storePlaysRow.holds Try.pinned (OpenSpec.ofChange storePlaysWrong)

/- THE SECOND FORM. 'bulk': how many values and letters a reading holds, each counted each time it is reached (what is shared counts as often as it is met; a slice's spare places count too). A statement '..UptoSaid' is the law's where the arguments, and the package variables that the reading takes, are together of bulk at most 1048576: NARROWER than '..Said'. Prove '..Said' where nothing that the law and all that it calls make is longer than what came in: it says more and counts as full. Else prove '..UptoSaid'. A law counts once. -/
mutual
def uptoBulk {H : Type} : DataW H → Nat
  | .lit (.string bytes) => bytes.length + 1
  | .lit _ => 1
  | .nil => 1
  | .ptr d => uptoBulk d + 1
  | .slice elems spare => uptoBulkAll elems + uptoBulkAll spare + 1
  | .agg parts => uptoBulkAll parts + 1
  | .iface _ d => uptoBulk d + 1
  | .map entries => uptoBulkEntries entries + 1
  | .held _ => 1
def uptoBulkAll {H : Type} : List (DataW H) → Nat
  | [] => 0
  | d :: r => uptoBulk d + uptoBulkAll r
def uptoBulkEntries {H : Type} : List (Lit × DataW H) → Nat
  | [] => 0
  | x :: r => uptoBulkEntry x + uptoBulkEntries r
def uptoBulkEntry {H : Type} : Lit × DataW H → Nat
  | (.string bytes, d) => bytes.length + uptoBulk d + 1
  | (_, d) => uptoBulk d + 1
 end
def uptoSmall : (H : Type) → List (DataW H) → Bool := fun _ ds => decide (uptoBulkAll ds ≤ 1048576)
def OpenSpec.upto (s : _root_.Go.ChangeSpec) : _root_.Go.OpenSpec := { _root_.Go.OpenSpec.ofChange s with cond := some uptoSmall }

/-- 'tenementlaw24.ProcStack', WHERE WHAT IT READS IS OF BULK AT MOST 1048576: true; the input reads as it did. -/
def procStackUptoRow : OpenClaim := { program := "ytempfmkicpifkaa", sum := "6f4486dbb8cc5ae995a24cc63dcd5af1dd2816a7ad5f4938e8c4f230221bb18f", func := "tenement/tenementlaw24.ProcStack", spec := "procStack", apart := false, narrowed := true }
def ProcStackUptoSaid : Prop := procStackUptoRow.holds Try.pinned (OpenSpec.upto procStackSpec)

/-- 'tenementlaw24.ProcKnown', WHERE WHAT IT READS IS OF BULK AT MOST 1048576: true; the input reads as it did. -/
def procKnownUptoRow : OpenClaim := { program := "ytempfmkicpifkaa", sum := "6f4486dbb8cc5ae995a24cc63dcd5af1dd2816a7ad5f4938e8c4f230221bb18f", func := "tenement/tenementlaw24.ProcKnown", spec := "procKnown", apart := false, narrowed := true }
def ProcKnownUptoSaid : Prop := procKnownUptoRow.holds Try.pinned (OpenSpec.upto procKnownSpec)

/-- 'tenementlaw15.HeapGives', WHERE WHAT IT READS IS OF BULK AT MOST 1048576: true; the input reads as it did. -/
def heapGivesUptoRow : OpenClaim := { program := "ytempfmkicpifkaa", sum := "6f4486dbb8cc5ae995a24cc63dcd5af1dd2816a7ad5f4938e8c4f230221bb18f", func := "tenement/tenementlaw15.HeapGives", spec := "heapGives", apart := false, narrowed := true }
def HeapGivesUptoSaid : Prop := heapGivesUptoRow.holds Try.pinned (OpenSpec.upto heapGivesSpec)

/-- 'tenementlaw15.HeapLive', WHERE WHAT IT READS IS OF BULK AT MOST 1048576: true; the input reads as it did. -/
def heapLiveUptoRow : OpenClaim := { program := "ytempfmkicpifkaa", sum := "6f4486dbb8cc5ae995a24cc63dcd5af1dd2816a7ad5f4938e8c4f230221bb18f", func := "tenement/tenementlaw15.HeapLive", spec := "heapLive", apart := false, narrowed := true }
def HeapLiveUptoSaid : Prop := heapLiveUptoRow.holds Try.pinned (OpenSpec.upto heapLiveSpec)

/-- 'tenementlaw21.TiesKnown', WHERE WHAT IT READS IS OF BULK AT MOST 1048576: true; the input reads as it did. -/
def tiesKnownUptoRow : OpenClaim := { program := "ytempfmkicpifkaa", sum := "6f4486dbb8cc5ae995a24cc63dcd5af1dd2816a7ad5f4938e8c4f230221bb18f", func := "tenement/tenementlaw21.TiesKnown", spec := "tiesKnown", unfollowed := true, recurses := true, apart := false, narrowed := true }
def TiesKnownUptoSaid : Prop := tiesKnownUptoRow.holds Try.pinned (OpenSpec.upto tiesKnownSpec)

/-- 'tenementlaw21.TiesPlays', WHERE WHAT IT READS IS OF BULK AT MOST 1048576: true; the input reads as it did. -/
def tiesPlaysUptoRow : OpenClaim := { program := "ytempfmkicpifkaa", sum := "6f4486dbb8cc5ae995a24cc63dcd5af1dd2816a7ad5f4938e8c4f230221bb18f", func := "tenement/tenementlaw21.TiesPlays", spec := "tiesPlays", unfollowed := true, recurses := true, apart := false, narrowed := true }
def TiesPlaysUptoSaid : Prop := tiesPlaysUptoRow.holds Try.pinned (OpenSpec.upto tiesPlaysSpec)

/-- 'tenementlaw21.TiesBoth', WHERE WHAT IT READS IS OF BULK AT MOST 1048576: true; the input reads as it did. -/
def tiesBothUptoRow : OpenClaim := { program := "ytempfmkicpifkaa", sum := "6f4486dbb8cc5ae995a24cc63dcd5af1dd2816a7ad5f4938e8c4f230221bb18f", func := "tenement/tenementlaw21.TiesBoth", spec := "tiesBoth", unfollowed := true, recurses := true, apart := false, narrowed := true }
def TiesBothUptoSaid : Prop := tiesBothUptoRow.holds Try.pinned (OpenSpec.upto tiesBothSpec)

/-- 'tenementlaw11.StoreLooks', WHERE WHAT IT READS IS OF BULK AT MOST 1048576: true; the input reads as it did. -/
def storeLooksUptoRow : OpenClaim := { program := "ytempfmkicpifkaa", sum := "6f4486dbb8cc5ae995a24cc63dcd5af1dd2816a7ad5f4938e8c4f230221bb18f", func := "tenement/tenementlaw11.StoreLooks", spec := "storeLooks", unfollowed := true, recurses := true, apart := false, narrowed := true }
def StoreLooksUptoSaid : Prop := storeLooksUptoRow.holds Try.pinned (OpenSpec.upto storeLooksSpec)

/-- 'tenementlaw11.StoreTight', WHERE WHAT IT READS IS OF BULK AT MOST 1048576: true; the input reads as it did. -/
def storeTightUptoRow : OpenClaim := { program := "ytempfmkicpifkaa", sum := "6f4486dbb8cc5ae995a24cc63dcd5af1dd2816a7ad5f4938e8c4f230221bb18f", func := "tenement/tenementlaw11.StoreTight", spec := "storeTight", unfollowed := true, recurses := true, apart := false, narrowed := true }
def StoreTightUptoSaid : Prop := storeTightUptoRow.holds Try.pinned (OpenSpec.upto storeTightSpec)

/-- 'tenementlaw11.StoreKnown', WHERE WHAT IT READS IS OF BULK AT MOST 1048576: true; the input reads as it did. -/
def storeKnownUptoRow : OpenClaim := { program := "ytempfmkicpifkaa", sum := "6f4486dbb8cc5ae995a24cc63dcd5af1dd2816a7ad5f4938e8c4f230221bb18f", func := "tenement/tenementlaw11.StoreKnown", spec := "storeKnown", unfollowed := true, recurses := true, apart := false, narrowed := true }
def StoreKnownUptoSaid : Prop := storeKnownUptoRow.holds Try.pinned (OpenSpec.upto storeKnownSpec)

/-- 'tenementlaw11.StoreCounts', WHERE WHAT IT READS IS OF BULK AT MOST 1048576: true; the input reads as it did. -/
def storeCountsUptoRow : OpenClaim := { program := "ytempfmkicpifkaa", sum := "6f4486dbb8cc5ae995a24cc63dcd5af1dd2816a7ad5f4938e8c4f230221bb18f", func := "tenement/tenementlaw11.StoreCounts", spec := "storeCounts", unfollowed := true, recurses := true, apart := false, narrowed := true }
def StoreCountsUptoSaid : Prop := storeCountsUptoRow.holds Try.pinned (OpenSpec.upto storeCountsSpec)

/-- 'tenementlaw11.StorePlays', WHERE WHAT IT READS IS OF BULK AT MOST 1048576: true; the input reads as it did. -/
def storePlaysUptoRow : OpenClaim := { program := "ytempfmkicpifkaa", sum := "6f4486dbb8cc5ae995a24cc63dcd5af1dd2816a7ad5f4938e8c4f230221bb18f", func := "tenement/tenementlaw11.StorePlays", spec := "storePlays", unfollowed := true, recurses := true, apart := false, narrowed := true }
def StorePlaysUptoSaid : Prop := storePlaysUptoRow.holds Try.pinned (OpenSpec.upto storePlaysSpec)

end Rows
end Go.Proofs.Ytempfmkicpifkaa
