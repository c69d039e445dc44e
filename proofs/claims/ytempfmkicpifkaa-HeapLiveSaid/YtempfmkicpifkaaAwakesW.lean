/- The functions of this seat's list, run by the kernel. -/
import Derived.Test.YtempfmkicpifkaaAdK
import Derived.Test.YtempfmkicpifkaaAdL
import Derived.Test.YtempfmkicpifkaaFactsC
import Derived.Test.YtempfmkicpifkaaChecked
import Derived.KernelRfl
set_option linter.unusedVariables false
namespace Go.Proofs.Ytempfmkicpifkaa
open Go.Ab
set_option maxRecDepth 100000 in
theorem awake15 : isTrue (evFn (H := Tr AObj) (Tr V) (cxOf Try.prog) (seatPrims [] sortFns cmpFns) 300 (.fn 15) [] MapI.emp 0) = true := by kernel_rfl
theorem bodied15 : (match Try.f15.body with | some _ => true | none => false) = true := by kernel_rfl
set_option maxRecDepth 100000 in
theorem awake34 : isTrue (evFn (H := Tr AObj) (Tr V) (cxOf Try.prog) (seatPrims [] sortFns cmpFns) 300 (.fn 34) [] MapI.emp 0) = true := by kernel_rfl
theorem bodied34 : (match Try.f34.body with | some _ => true | none => false) = true := by kernel_rfl
set_option maxRecDepth 100000 in
theorem awake42 : isTrue (evFn (H := Tr AObj) (Tr V) (cxOf Try.prog) (seatPrims [] sortFns cmpFns) 300 (.fn 42) [] MapI.emp 0) = true := by kernel_rfl
theorem bodied42 : (match Try.f42.body with | some _ => true | none => false) = true := by kernel_rfl
set_option maxRecDepth 100000 in
theorem awake60 : isTrue (evFn (H := Tr AObj) (Tr V) (cxOf Try.prog) (seatPrims [] sortFns cmpFns) 300 (.fn 60) [] MapI.emp 0) = true := by kernel_rfl
theorem bodied60 : (match Try.f60.body with | some _ => true | none => false) = true := by kernel_rfl
theorem shut_all : ∀ f ∈ shutFns, ∃ (n : Nat) (fn : Func) (code : Code), Try.prog.funcs[f]? = some fn ∧ fn.body = some code ∧ isTrue (evFn (H := Tr AObj) (Tr V) (cxOf Try.prog) (seatPrims [] sortFns cmpFns) n (.fn f) [] MapI.emp 0) = true := by
  intro f hf
  simp only [List.mem_cons, List.not_mem_nil, or_false] at hf
  rcases hf with rfl | rfl | rfl | rfl
  · cases hb : Try.f15.body with
    | none => have := bodied15; rw [hb] at this; cases this
    | some c => exact ⟨_, _, c, Try.func15, hb, awake15⟩
  · cases hb : Try.f34.body with
    | none => have := bodied34; rw [hb] at this; cases this
    | some c => exact ⟨_, _, c, Try.func34, hb, awake34⟩
  · cases hb : Try.f42.body with
    | none => have := bodied42; rw [hb] at this; cases this
    | some c => exact ⟨_, _, c, Try.func42, hb, awake42⟩
  · cases hb : Try.f60.body with
    | none => have := bodied60; rw [hb] at this; cases this
    | some c => exact ⟨_, _, c, Try.func60, hb, awake60⟩
end Go.Proofs.Ytempfmkicpifkaa
