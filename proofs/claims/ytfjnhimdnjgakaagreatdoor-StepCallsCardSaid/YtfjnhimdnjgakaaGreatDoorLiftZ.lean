/- The row's statement, laid over the walk. -/
import Derived.Test.YtfjnhimdnjgakaaGreatDoorFactsZ
import Derived.Test.YtfjnhimdnjgakaaGreatDoorAdC
import Derived.Test.YtfjnhimdnjgakaaGreatDoorAwakeZ
import Derived.Test.YtfjnhimdnjgakaaGreatDoorCallsZ
import Derived.Test.YtfjnhimdnjgakaaGreatDoorAg3
import Derived.ProofKit
import Derived.OpenShut
import Derived.DataShut
import Derived.LaidMore
import Derived.Lay
import Derived.SevenTiedAt
import Derived.Stop.Joined
import Derived.Test.YtfjnhimdnjgakaaGreatDoorRows
set_option linter.unusedVariables false
namespace Go.Proofs.YtfjnhimdnjgakaaGreatDoor.stepCalls
open Go.ChangeShapes Go.WideShapes Go.ChangeAt Go.RowKit

theorem own : ownKnob Tryz.prog.godebug = none := by kernel_rfl
theorem prims (w : World) (f : Nat) (m : (Go.Ab.Tgt → List Go.Ab.V → Go.Ab.M (Go.Ab.Tr Go.Ab.AObj) Go.Ab.V) → List Go.Ab.V → Go.Ab.M (Go.Ab.Tr Go.Ab.AObj) Go.Ab.V) (hm : Go.Ab.shutPrims [4] f = some m) : Go.Ab.PrimOk Tryz.prog 0 w f m := by
  unfold Go.Ab.shutPrims at hm
  split at hm
  · next hc =>
    cases hm
    have hf : f = 4 := by simpa using hc
    subst hf
    cases hb : Tryz.f4.body with
    | none => have := bodied4; rw [hb] at this; cases this
    | some c => exact Go.Ab.shutPrim_ok fit Tryz.func4 hb awake4 w
  · cases hm
/-- The slots that hold an argument, or what it comes to, and what is asked of them: the remainder by so much. -/
abbrev taints : List (Nat × Nat) := [(0, 60), (17, 60), (18, 60), (1, 5), (21, 5), (22, 5)]
theorem tamed : (match Tryz.f3.body with | some c => Go.Ab.tameC (Go.Ab.cxOf Tryz.prog) taints c && Go.Ab.tameR taints Tryz.f3.results.toList | none => false) = true := by kernel_rfl
theorem walk (w : World) {a b : Int} (ha : 0 ≤ a ∧ a < 256) (hb : 0 ≤ b ∧ b < 256) : Calls Tryz.prog 3 ⟨[.int .u8 a, .int .u8 b]⟩ w fun e w' => e = .returned (.bool true) ∧ Go.RowKit.Below w.heap.size w w' := by
  cases hc : Tryz.f3.body with
  | none => have := bodied3; rw [hc] at this; cases this
  | some c =>
    have ht := tamed
    rw [hc] at ht
    exact Go.Ab.fin2 fit prims Tryz.func3 hc rfl (T := taints) ht (m0 := 60) (m1 := 5) rfl rfl ⟨by decide, by decide⟩ ⟨by decide, by decide⟩ ran3 ha hb w

theorem u8_in {z : Int} (h : (Lit.int .u8 z).wf = true) : 0 ≤ z ∧ z < 256 := by
  have e := (Lit.wf_int_iff _ _).1 h
  have h1 : IntKind.min .u8 = 0 := rfl
  have h2 : IntKind.max .u8 = 255 := rfl
  omega

set_option maxRecDepth 100000 in
theorem lifted (os : Os) (started : os.Started) (H : Type) (enc : TypeId × Value → H) :
    ReturnsInHanded {} Tryz.checked os 3 .any (fun w args => (Rows.stepCallsSpec.pre enc Tryz.prog Tryz.f3 Rows.stepCallsRow.domain false w args ∧ laidMetH Tryz.prog Rows.stepCallsRow.laid w) ∧ sizedMet enc Tryz.prog Tryz.f3 (OpenSpec.ofChange Rows.stepCallsSpec) false w args)
      (Rows.stepCallsSpec.post enc Tryz.prog Tryz.f3 false true false false) := by
  refine returnsInHanded_of_change_and (C := Tryz.checked) (X := fun w _ => laidMetH Tryz.prog Rows.stepCallsRow.laid w) (fun _ _ _ hh h => h.of_heap hh) own started (by kernel_rfl) Tryz.func3
    (ChangeSpec.witness_shaped (enc := enc) (C := Tryz.checked) (os := os) (X := fun w _ => laidMetH Tryz.prog Rows.stepCallsRow.laid w) false (World.laidAll Tryz.prog os Rows.stepCallsRow.laid) #[.int .u8 0, .int .u8 0] 8 (World.laidAll_os _ _ _)
      (World.shaped_of_ZipB (by kernel_rfl) (by kernel_rfl)) (by kernel_rfl) (by kernel_rfl) (by kernel_rfl)
      (by rw [MakeChecks.laidMetH_plain _ _ _ (by kernel_rfl)]; exact laidMet_laidAll _ (by kernel_rfl) (by kernel_rfl))) ?_
  intro W base args ds gs before hval0 hW hc _ hL _
  have hval : ∀ (j : Nat) t v, Tryz.f3.params[j]? = some t → args[j]? = some v → Value.okWide Tryz.prog W .any base t v := hval0
  have hW' := hW
  obtain ⟨p, q, hA0, hV, rfl, _, _⟩ := hW
  have hA : DataW.TrodAll enc Tryz.prog W 0 (fun _ => true) true Tryz.f3.params.toList args.toList ds p := hA0
  rw [Tryz.params3] at hA hval
  obtain ⟨v0, v1, d0, d1, p0, p1, rfl, rfl, rfl, t0, t1⟩ := trodAll_two hA
  obtain ⟨rfl, rfl⟩ := trodVars_none hV
  obtain ⟨a, rfl, rfl, rfl, wa⟩ := open_int Tryz.underlying5 (hval 0 _ _ rfl rfl) t0
  obtain ⟨b, rfl, rfl, rfl, wb⟩ := open_int Tryz.underlying5 (hval 1 _ _ rfl rfl) t1
  clear hA0 hval0
  simp only [List.append_nil] at hW'
  refine (walk W (u8_in wa) (u8_in wb)).mono fun e W' ⟨he, hg⟩ => ?_
  subst he
  exact ⟨_, rfl, Go.Ab.post_below (pa := []) (pv := []) hW' (fun _ _ _ => (trodAll_cons_mk (shut_bool Tryz.underlying4 _) trodAll_mk0)) (fun sp _ => by
      rw [Tryz.params3]
      exact trodAll_cons_mk (shut_int Tryz.underlying5 wa) (trodAll_cons_mk (shut_int Tryz.underlying5 wb) trodAll_mk0)) (fun _ _ => rfl) rfl
    hg (ok_one (by kernel_rfl) rfl (okWide_bool_mk Tryz.underlying4 _))⟩
end Go.Proofs.YtfjnhimdnjgakaaGreatDoor.stepCalls
