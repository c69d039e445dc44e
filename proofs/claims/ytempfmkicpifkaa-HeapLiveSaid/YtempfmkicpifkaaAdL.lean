/- This seat's functions that stand as 'prim'. -/
import Derived.Test.YtempfmkicpifkaaAdO0
namespace Go.Proofs.Ytempfmkicpifkaa
abbrev shutFns : List Nat := [15, 34, 42, 60]
/-- slices.Sorted, with the iterators of maps.Keys. -/
abbrev sortFns : List (Nat × List Nat) := [(115, [137, 156])]
/-- slices.SortFunc, with what compares. -/
abbrev cmpFns : List (Nat × List Nat) := [(138, [139])]
end Go.Proofs.Ytempfmkicpifkaa
