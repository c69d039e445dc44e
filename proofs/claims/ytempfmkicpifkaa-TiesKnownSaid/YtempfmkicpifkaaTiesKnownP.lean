/-
  TiesKnown returns true and leaves all that was there as it was. No conditions.
  The walk is the abstract evaluator (YtempfmkicpifkaaAc1 and on), run by the kernel; the rest began as the program's own shell.
-/
import Derived.Test.YtempfmkicpifkaaRows
import Derived.Test.YtempfmkicpifkaaFactsC
import Derived.Test.YtempfmkicpifkaaAwakesW
import Derived.Test.YtempfmkicpifkaaSortsW
import Derived.WalkKit
import Derived.ProofKit
import Derived.OpenShut
namespace Go.Proofs.Ytempfmkicpifkaa.tiesKnown
open Go.ChangeShapes Go.WideShapes Go.ChangeAt Go.RowKit
set_option linter.unusedVariables false

theorem own : ownKnob Try.prog.godebug = none := by kernel_rfl

set_option maxRecDepth 100000 in
theorem ran : Go.Ab.isTrue (Go.Ab.evFn (H := Go.Ab.Tr Go.Ab.AObj) (Go.Ab.Tr Go.Ab.V) (Go.Ab.cxOf Try.prog) (Go.Ab.seatPrims shutFns sortFns) 100000 (.fn 7) [] Go.Ab.MapI.emp 0) = true := by kernel_rfl
theorem bodied : (match Try.f7.body with | some _ => true | none => false) = true := by kernel_rfl
theorem walk (w : World) : Calls Try.prog 7 #[] w fun e w' => e = .returned (.bool true) ∧ Go.RowKit.Below w.heap.size w w' := by
  cases hb : Try.f7.body with
  | none => have := bodied; rw [hb] at this; cases this
  | some c => exact Go.Ab.closed_ok fit.cx rfl fit.mixed fit.good (Go.Ab.seatPrims_ok fit shut_all sort_all) Try.func7 (fit.name Try.func7) hb ran w

set_option maxRecDepth 100000 in
theorem lifted (os : Os) (started : os.Started) (H : Type) (enc : TypeId × Value → H) :
    ReturnsInHanded {} Try.checked os 7 .any (Rows.tiesKnownSpec.pre6 enc Try.prog Try.f7 Rows.tiesKnownRow.domain false) (Rows.tiesKnownSpec.post enc Try.prog Try.f7 false true false false) := by
  refine returnsInHanded_of_change (C := Try.checked) own started (by kernel_rfl) Try.func7
    (ChangeSpec.witness6 (enc := enc) (C := Try.checked) false ⟨#[], #[], []⟩ 8 (by kernel_rfl) (by kernel_rfl) (by kernel_rfl) (by kernel_rfl)) ?_
  intro W base args ds gs before hval0 hW hcnd _
  have hval : ∀ (j : Nat) t v, Try.f7.params[j]? = some t → args[j]? = some v → Value.okWide Try.prog W .any base t v := hval0
  have hW' := hW
  obtain ⟨p, q, hA0, hV, rfl, hfz, hnd⟩ := hW
  have hA : DataW.TrodAll enc Try.prog W 0 (fun _ => true) true Try.f7.params.toList args.toList ds p := hA0
  rw [Try.params7] at hA hval
  obtain ⟨rfl, rfl, rfl⟩ := trodAll_none hA
  obtain ⟨rfl, rfl⟩ := trodVars_none hV
  clear hA0 hval0
  simp only [List.append_nil] at hW'
  refine (walk  W).mono fun e W' ⟨he, hg⟩ => ?_
  subst he
  exact ⟨_, rfl, Go.Ab.post_below (pa := []) (pv := []) hW' (fun _ _ _ => (trodAll_cons_mk (shut_bool Try.underlying4 _) trodAll_mk0)) (fun sp _ => rfl) (fun _ _ => rfl) rfl
    hg (ok_one (by kernel_rfl) rfl (okWide_bool_mk Try.underlying4 _))⟩

theorem over : Rows.tiesKnownRow.holds Try.pinned (OpenSpec.ofChange Rows.tiesKnownSpec) :=
  OpenClaim.holds_of_wide 7 Try.f7 rfl rfl rfl rfl rfl rfl rfl ⟨rfl, rfl, rfl, rfl, rfl⟩ rfl rfl rfl rfl rfl (by kernel_rfl) Try.func7 (by kernel_rfl)
    (of_decide_eq_true (by kernel_rfl)) (by unfold Func.isWrapper; first | (rw [if_pos (by decide +kernel)]; kernel_rfl) | (rw [if_neg (by decide +kernel)]; exact ⟨rfl, rfl⟩))
    (fun os started H enc _ => lifted os started H enc)

/-- The statement. -/
theorem proved : Rows.TiesKnownSaid :=
  over
#print axioms proved
end Go.Proofs.Ytempfmkicpifkaa.tiesKnown
