/- slices.Sorted of a map's keys: none at this program. -/
import Derived.Test.YtcenbfjhhaialaaAdK
import Derived.Test.YtcenbfjhhaialaaAdL
import Derived.Test.YtcenbfjhhaialaaChecked
set_option linter.unusedVariables false
namespace Go.Proofs.Ytcenbfjhhaialaa
open Go.RowKit Go.Maps Go.Ab Go.Proofs
theorem sort_all : ∀ f gs, findF f sortFns = some gs → ∀ g ∈ gs, KeysSorted Try.prog f g 3 := by
  intro f gs h g hg
  unfold findF at h
  cases h
end Go.Proofs.Ytcenbfjhhaialaa
