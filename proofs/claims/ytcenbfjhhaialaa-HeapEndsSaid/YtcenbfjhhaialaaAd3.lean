/- Arguments; loops. -/
import Derived.Test.YtcenbfjhhaialaaAd2
import Derived.Test.YtcenbfjhhaialaaAd5
import Derived.IntWalk
set_option linter.unusedVariables false
set_option linter.unusedSectionVars false
set_option linter.unusedSimpArgs false
set_option linter.unnecessarySimpa false
namespace Go.Proofs.Ytcenbfjhhaialaa
open Go.Ab

theorem set3 {X : EE} {k0 k1 k2 : Nat} {v0 v1 v2 : V} (h0 : X k0 = some v0) (h1 : X k1 = some v1) (h2 : X k2 = some v2) : ∃ b, X = MapI.set (MapI.set (MapI.set b k0 v0) k1 v1) k2 v2 :=
  ⟨X, by rw [FM.add h0, FM.add h1, FM.add h2]⟩
theorem set2 {X : EE} {k0 k1 : Nat} {v0 v1 : V} (h0 : X k0 = some v0) (h1 : X k1 = some v1) : ∃ b, X = MapI.set (MapI.set b k0 v0) k1 v1 :=
  ⟨X, by rw [FM.add h0, FM.add h1]⟩
theorem set4 {X : EE} {k0 k1 k2 k3 : Nat} {v0 v1 v2 v3 : V} (h0 : X k0 = some v0) (h1 : X k1 = some v1) (h2 : X k2 = some v2) (h3 : X k3 = some v3) : ∃ b, X = MapI.set (MapI.set (MapI.set (MapI.set b k0 v0) k1 v1) k2 v2) k3 v3 :=
  ⟨X, by rw [FM.add h0, FM.add h1, FM.add h2, FM.add h3]⟩
theorem nth_map {α β : Type} {f : α → β} : ∀ {l : List α} {i : Nat} {x : α}, l[i]? = some x → nth (l.map f) i = some (f x)
  | [], _, _, h => by simp at h
  | a :: l, 0, x, h => by simp at h; subst h; rfl
  | a :: l, i + 1, x, h => by
    have : nth (l.map f) i = some (f x) := nth_map (by simpa using h)
    simpa [nth] using this
end Go.Proofs.Ytcenbfjhhaialaa
