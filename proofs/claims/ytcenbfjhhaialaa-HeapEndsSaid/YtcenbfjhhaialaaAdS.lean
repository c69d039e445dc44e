/- The calculus at this seat's program. -/
import Derived.Test.YtcenbfjhhaialaaAd1
import Derived.Test.YtcenbfjhhaialaaAdL
import Derived.Test.YtcenbfjhhaialaaAc20
import Derived.Test.YtcenbfjhhaialaaChecked
import Derived.KernelRfl
set_option linter.unusedVariables false
set_option linter.unusedSectionVars false
set_option linter.unusedSimpArgs false
set_option linter.unnecessarySimpa false
namespace Go.Proofs.Ytcenbfjhhaialaa
open Go.Ab
noncomputable abbrev cx : Cx := cxOf Try.prog
abbrev pr {H : Type} [MapI H AObj] : Nat → Option ((Tgt → List V → M H V) → List V → M H V) := seatPrims shutFns sortFns cmpFns
abbrev HH := FM AObj
abbrev EE := FM V
/-- A call, by fuel. -/
noncomputable abbrev cl (f : Nat) (xs : List V) : Nat → M HH V := fun n => evFn EE cx pr n (.fn f) xs
theorem get_set_ne {h : HH} {n m : Nat} {x : AObj} {r : Option AObj} (hne : n ≠ m) (hg : MapI.get h m = r) : MapI.get (MapI.set h n x) m = r := by rw [MapI.get_ne _ _ _ _ hne]; exact hg
theorem out_ret {rs : List ResultVar} {Q : V → HH → Nat → Prop} {e : EE} {h : HH} {c : Nat} {vs : List V} (hv : resV e rs = some vs) (q : Q (tup vs) h c) : outQ rs Q .ret e h c := ⟨vs, hv, q⟩
theorem out_normal {rs : List ResultVar} {Q : V → HH → Nat → Prop} {e : EE} {h : HH} {c : Nat} {vs : List V} (hv : resV e rs = some vs) (q : Q (tup vs) h c) : outQ rs Q .normal e h c := ⟨vs, hv, q⟩
/-- Each access is of one of the names in the list, or of a new one. -/
def InL (ns : List Nat) (c : Nat) : Acc → Prop := fun x => x.name ∈ ns ∨ c ≤ x.name
end Go.Proofs.Ytcenbfjhhaialaa
