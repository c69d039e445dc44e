/- This seat's functions that stand as 'prim'. -/
import Derived.Test.YtempfmkicpifkaaAdL0
namespace Go.Proofs.Ytempfmkicpifkaa
abbrev shutFns : List Nat := [15, 34]
end Go.Proofs.Ytempfmkicpifkaa
