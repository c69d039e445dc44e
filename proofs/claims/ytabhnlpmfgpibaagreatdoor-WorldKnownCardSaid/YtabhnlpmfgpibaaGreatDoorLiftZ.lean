/- The row's statement, laid over the walk. -/
import Derived.Test.YtabhnlpmfgpibaaGreatDoorFactsZ
import Derived.Test.YtabhnlpmfgpibaaGreatDoorAdC
import Derived.Test.YtabhnlpmfgpibaaGreatDoorAwakeZ
import Derived.Test.YtabhnlpmfgpibaaGreatDoorRunZ
import Derived.ProofKit
import Derived.OpenShut
import Derived.LaidMore
import Derived.Lay
import Derived.SevenTiedAt
import Derived.Stop.Joined
import Derived.Test.YtabhnlpmfgpibaaGreatDoorRows
set_option linter.unusedVariables false
namespace Go.Proofs.YtabhnlpmfgpibaaGreatDoor.worldKnown
open Go.ChangeShapes Go.WideShapes Go.ChangeAt Go.RowKit

theorem own : ownKnob Tryz.prog.godebug = none := by kernel_rfl
theorem prims (w : World) (f : Nat) (m : (Go.Ab.Tgt → List Go.Ab.V → Go.Ab.M (Go.Ab.Tr Go.Ab.AObj) Go.Ab.V) → List Go.Ab.V → Go.Ab.M (Go.Ab.Tr Go.Ab.AObj) Go.Ab.V) (hm : Go.Ab.shutPrims [4] f = some m) : Go.Ab.PrimOk Tryz.prog 0 w f m := by
  unfold Go.Ab.shutPrims at hm
  split at hm
  · next hc =>
    cases hm
    have hf : f = 4 := by simpa using hc
    subst hf
    cases hb : Tryz.f4.body with
    | none => have := bodied4; rw [hb] at this; cases this
    | some c => exact Go.Ab.shutPrim_ok fit Tryz.func4 hb awake4 w
  · cases hm
theorem walk (w : World) : Calls Tryz.prog 3 #[] w fun e w' => e = .returned (.bool true) ∧ Go.RowKit.Below w.heap.size w w' := by
  cases hb : Tryz.f3.body with
  | none => have := bodied3; rw [hb] at this; cases this
  | some c => exact Go.Ab.closed_ok fit.cx rfl fit.mixed fit.good prims Tryz.func3 (fit.name Tryz.func3) hb ran3 w

set_option maxRecDepth 100000 in
theorem lifted (os : Os) (started : os.Started) (H : Type) (enc : TypeId × Value → H) :
    ReturnsInHanded {} Tryz.checked os 3 .any (fun w args => (Rows.worldKnownSpec.pre enc Tryz.prog Tryz.f3 Rows.worldKnownRow.domain false w args ∧ laidMetH Tryz.prog Rows.worldKnownRow.laid w) ∧ sizedMet enc Tryz.prog Tryz.f3 (OpenSpec.ofChange Rows.worldKnownSpec) false w args)
      (Rows.worldKnownSpec.post enc Tryz.prog Tryz.f3 false true false false) := by
  refine returnsInHanded_of_change_and (C := Tryz.checked) (X := fun w _ => laidMetH Tryz.prog Rows.worldKnownRow.laid w) (fun _ _ _ hh h => h.of_heap hh) own started (by kernel_rfl) Tryz.func3
    (ChangeSpec.witness_shaped (enc := enc) (C := Tryz.checked) (os := os) (X := fun w _ => laidMetH Tryz.prog Rows.worldKnownRow.laid w) false (World.laidAll Tryz.prog os Rows.worldKnownRow.laid) #[] 8 (World.laidAll_os _ _ _)
      (World.shaped_of_ZipB (by kernel_rfl) (by kernel_rfl)) (by kernel_rfl) (by kernel_rfl) (by kernel_rfl)
      (by rw [MakeChecks.laidMetH_plain _ _ _ (by kernel_rfl)]; exact laidMet_laidAll _ (by kernel_rfl) (by kernel_rfl))) ?_
  intro W base args ds gs before hval0 hW hc _ hL _
  have hval : ∀ (j : Nat) t v, Tryz.f3.params[j]? = some t → args[j]? = some v → Value.okWide Tryz.prog W .any base t v := hval0
  have hW' := hW
  obtain ⟨p, q, hA0, hV, rfl, _, _⟩ := hW
  have hA : DataW.TrodAll enc Tryz.prog W 0 (fun _ => true) true Tryz.f3.params.toList args.toList ds p := hA0
  rw [Tryz.params3] at hA hval
  obtain ⟨rfl, rfl, rfl⟩ := trodAll_none hA
  obtain ⟨rfl, rfl⟩ := trodVars_none hV
  clear hA0 hval0
  simp only [List.append_nil] at hW'
  refine (walk W).mono fun e W' ⟨he, hg⟩ => ?_
  subst he
  exact ⟨_, rfl, Go.Ab.post_below (pa := []) (pv := []) hW' (fun _ _ _ => (trodAll_cons_mk (shut_bool Tryz.underlying4 _) trodAll_mk0)) (fun sp _ => rfl) (fun _ _ => rfl) rfl
    hg (ok_one (by kernel_rfl) rfl (okWide_bool_mk Tryz.underlying4 _))⟩
end Go.Proofs.YtabhnlpmfgpibaaGreatDoor.worldKnown
