/- The functions of this seat's list, run by the kernel. -/
import Derived.Test.YtcenbfjhhaialaaAdK
import Derived.Test.YtcenbfjhhaialaaAdL
import Derived.Test.YtcenbfjhhaialaaFactsC
import Derived.Test.YtcenbfjhhaialaaChecked
import Derived.KernelRfl
set_option linter.unusedVariables false
namespace Go.Proofs.Ytcenbfjhhaialaa
open Go.Ab
set_option maxRecDepth 100000 in
theorem awake4 : isTrue (evFn (H := Tr AObj) (Tr V) (cxOf Try.prog) (seatPrims [] sortFns cmpFns) 300 (.fn 4) [] MapI.emp 0) = true := by kernel_rfl
theorem bodied4 : (match Try.f4.body with | some _ => true | none => false) = true := by kernel_rfl
theorem shut_all : ∀ f ∈ shutFns, ∃ (n : Nat) (fn : Func) (code : Code), Try.prog.funcs[f]? = some fn ∧ fn.body = some code ∧ isTrue (evFn (H := Tr AObj) (Tr V) (cxOf Try.prog) (seatPrims [] sortFns cmpFns) n (.fn f) [] MapI.emp 0) = true := by
  intro f hf
  simp only [List.mem_cons, List.not_mem_nil, or_false] at hf
  rcases hf with rfl
  · cases hb : Try.f4.body with
    | none => have := bodied4; rw [hb] at this; cases this
    | some c => exact ⟨_, _, c, Try.func4, hb, awake4⟩
end Go.Proofs.Ytcenbfjhhaialaa
