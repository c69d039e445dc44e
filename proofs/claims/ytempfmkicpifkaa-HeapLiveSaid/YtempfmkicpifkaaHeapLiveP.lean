/-
  HeapLive returns true for every input, and its arguments read behind the call as ahead of it. What may be made depends on what is live alone: collected or not, what is needed is there just if it and what is reached are within the limit.
  The walk goes by a calculus over the abstract evaluator (YtempfmkicpifkaaAc1 and on, YtempfmkicpifkaaAd1 and on).
-/
import Derived.Test.YtempfmkicpifkaaRows
import Derived.Test.YtempfmkicpifkaaAdTS
import Derived.Test.YtempfmkicpifkaaAwakesW
import Derived.Test.YtempfmkicpifkaaSortsW
import Derived.Test.YtempfmkicpifkaaCmpsW
import Derived.Test.YtempfmkicpifkaaFactsC
import Derived.Test.YtempfmkicpifkaaHpK
import Derived.WalkKit
import Derived.ProofKit
import Derived.OpenShut

set_option linter.unusedVariables false
namespace Go.Proofs.Ytempfmkicpifkaa.heapLive
open Go.ChangeShapes Go.WideShapes Go.ChangeAt Go.RowKit Go.Ab

theorem own : ownKnob Try.prog.godebug = none := by kernel_rfl
theorem kids : Kids Try.prog (· < Try.prog.types.size) := kids_rows (by kernel_rfl) (by kernel_rfl)
theorem full : ∀ t e, t < Try.prog.types.size → Try.prog.underlying t = some (.slice e) → 0 < Try.prog.cellsOf e := slices_full_of _ (by kernel_rfl)
theorem plain : plainAll Try.prog [4, 50, 60, 61] = true := by kernel_rfl
theorem bodied : (match Try.f6.body with | some _ => true | none => false) = true := by kernel_rfl
theorem walk {T : Type} {enc : TypeId × Value → T} {W : World} {vs : List Value} {ds : List (DataW T)} {ps : List MemPlace} (hv : ∀ (j : Nat) t v, Try.f6.params.toList[j]? = some t → vs[j]? = some v → ∃ r b, Value.okWide Try.prog W r b t v) (hA : DataW.TrodAll enc Try.prog W 0 (fun _ => true) true Try.f6.params.toList vs ds ps) :
    Calls Try.prog 6 ⟨vs⟩ W fun e w' => e = .returned (.bool true) ∧ Below W.heap.size W w' := by
  cases hb : Try.f6.body with
  | none => have := bodied; rw [hb] at this; cases this
  | some c => exact law_callsT fit kids plain (seatPrims_ok fit shut_all sort_all cmp_all) Try.func6 hb (fun t ht => by rw [Try.params6] at ht; simp only [List.mem_cons, List.not_mem_nil, or_false] at ht; rcases ht with rfl | rfl | rfl <;> decide) hv hA (live_walk)

set_option maxRecDepth 100000 in
theorem lifted (os : Os) (started : os.Started) (H : Type) (enc : TypeId × Value → H) :
    ReturnsInHanded {} Try.checked os 6 .any (Rows.heapLiveSpec.pre6 enc Try.prog Try.f6 Rows.heapLiveRow.domain false) (Rows.heapLiveSpec.post enc Try.prog Try.f6 false true false false) := by
  refine returnsInHanded_of_change (C := Try.checked) own started (by kernel_rfl) Try.func6
    (ChangeSpec.witness6 (enc := enc) (C := Try.checked) false ⟨#[], #[.agg #[.int .u16 0, .int .u16 0], .slice none 0 0, .bool false], []⟩ 8 (by kernel_rfl) (by kernel_rfl) (by kernel_rfl) (by kernel_rfl)) ?_
  intro W base args ds gs before hval0 hW hcnd _
  have hval : ∀ (j : Nat) t v, Try.f6.params[j]? = some t → args[j]? = some v → Value.okWide Try.prog W .any base t v := hval0
  have hW' := hW
  obtain ⟨p, q, hA0, hV, rfl, hfz, hnd⟩ := hW
  have hA : DataW.TrodAll enc Try.prog W 0 (fun _ => true) true Try.f6.params.toList args.toList ds p := hA0
  obtain ⟨rfl, rfl⟩ := trodVars_none hV
  have hlt : ∀ x ∈ p, x.block < W.heap.size := fun x hx => hW'.lt x (by simpa using hx)
  have hT : ∀ t ∈ Try.f6.params.toList, t < Try.prog.types.size := fun t ht => (by rw [Try.params6] at ht; simp only [List.mem_cons, List.not_mem_nil, or_false] at ht; rcases ht with rfl | rfl | rfl <;> exact of_decide_eq_true (by kernel_rfl))
  have hcalls := walk (fun j t v a b => ⟨_, _, hval j t v (by simpa using a) (by simpa using b)⟩) hA
  refine hcalls.mono fun e W' ⟨he, hg⟩ => ?_
  subst he
  have hafter := fun sp hsp => args_after kids full hT hA hlt hg sp hsp
  have hA2 := hA
  rw [Try.params6] at hA2
  obtain ⟨d0, d1, d2, rfl⟩ : ∃ d0 d1 d2, ds = [d0, d1, d2] := by
    obtain ⟨_, _, d0, r0, _, _, _, rfl, _, _, h0⟩ := trodAll_cons hA2; obtain ⟨_, _, d1, r1, _, _, _, rfl, _, _, h1⟩ := trodAll_cons h0; obtain ⟨_, _, d2, r2, _, _, _, rfl, _, _, h2⟩ := trodAll_cons h1; obtain ⟨_, rfl, _⟩ := trodAll_nil h2; exact ⟨d0, d1, d2, rfl⟩
  simp only [List.append_nil] at hW' ⊢
  exact ⟨_, rfl, Go.Ab.post_below (pa := p) (pv := []) hW' (fun _ _ _ => (trodAll_cons_mk (shut_bool Try.underlying4 _) trodAll_mk0)) (fun sp hsp => hafter sp (fun x hx => hsp x (by simpa using hx))) (fun _ _ => rfl) (by simp)
    hg (ok_one (by kernel_rfl) rfl (okWide_bool_mk Try.underlying4 _))⟩

theorem over : Rows.heapLiveRow.holds Try.pinned (OpenSpec.ofChange Rows.heapLiveSpec) :=
  OpenClaim.holds_of_wide 6 Try.f6 rfl rfl rfl rfl rfl rfl rfl ⟨rfl, rfl, rfl, rfl, rfl⟩ rfl rfl rfl rfl rfl (by kernel_rfl) Try.func6 (by kernel_rfl)
    (of_decide_eq_true (by kernel_rfl)) (by unfold Func.isWrapper; first | (rw [if_pos (by decide +kernel)]; kernel_rfl) | (rw [if_neg (by decide +kernel)]; exact ⟨rfl, rfl⟩))
    (fun os started H enc _ => lifted os started H enc)

/-- The statement. -/
theorem proved : Rows.HeapLiveSaid :=
  over
#print axioms proved
end Go.Proofs.Ytempfmkicpifkaa.heapLive
