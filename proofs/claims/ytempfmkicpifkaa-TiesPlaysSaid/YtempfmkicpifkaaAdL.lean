/- This seat's functions that stand as 'prim'. -/
import Derived.Test.YtempfmkicpifkaaAdK0
namespace Go.Proofs.Ytempfmkicpifkaa
abbrev shutFns : List Nat := [15, 34, 42]
/-- slices.Sorted, with the iterators of maps.Keys. -/
abbrev sortFns : List (Nat × List Nat) := [(115, [137, 156])]
end Go.Proofs.Ytempfmkicpifkaa
