/- This seat's functions that stand as 'prim'. -/
import Derived.Test.YtcenbfjhhaialaaAdO0
namespace Go.Proofs.Ytcenbfjhhaialaa
abbrev shutFns : List Nat := [4]
/-- slices.Sorted, with the iterators of maps.Keys. -/
abbrev sortFns : List (Nat × List Nat) := []
/-- slices.SortFunc, with what compares. -/
abbrev cmpFns : List (Nat × List Nat) := [(46, [47])]
end Go.Proofs.Ytcenbfjhhaialaa
