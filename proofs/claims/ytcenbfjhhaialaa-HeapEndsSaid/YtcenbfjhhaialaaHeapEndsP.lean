/-
  HeapEnds returns true for every input, and its arguments read behind the call as ahead of it. Each Bin that is made holds its handle once, and lets it go when it is collected, or when its heap ends; in the end the counts are what they were.
  The walk goes by a calculus over the abstract evaluator (YtcenbfjhhaialaaAc1 and on, YtcenbfjhhaialaaAd1 and on).
-/
import Derived.Test.YtcenbfjhhaialaaRows
import Derived.Test.YtcenbfjhhaialaaAdTS
import Derived.Test.YtcenbfjhhaialaaAwakesW
import Derived.Test.YtcenbfjhhaialaaSortsW
import Derived.Test.YtcenbfjhhaialaaCmpsW
import Derived.Test.YtcenbfjhhaialaaFactsC
import Derived.Test.YtcenbfjhhaialaaHeK
import Derived.WalkKit
import Derived.ProofKit
import Derived.OpenShut

set_option linter.unusedVariables false
namespace Go.Proofs.Ytcenbfjhhaialaa.heapEnds
open Go.ChangeShapes Go.WideShapes Go.ChangeAt Go.RowKit Go.Ab

theorem own : ownKnob Try.prog.godebug = none := by kernel_rfl
theorem kids : Kids Try.prog (· < Try.prog.types.size) := kids_rows (by kernel_rfl) (by kernel_rfl)
theorem full : ∀ t e, t < Try.prog.types.size → Try.prog.underlying t = some (.slice e) → 0 < Try.prog.cellsOf e := slices_full_of _ (by kernel_rfl)
theorem plain : plainAll Try.prog [4, 5, 22, 23] = true := by kernel_rfl
theorem bodied : (match Try.f3.body with | some _ => true | none => false) = true := by kernel_rfl
theorem walk {T : Type} {enc : TypeId × Value → T} {W : World} {vs : List Value} {ds : List (DataW T)} {ps : List MemPlace} (hv : ∀ (j : Nat) t v, Try.f3.params.toList[j]? = some t → vs[j]? = some v → ∃ r b, Value.okWide Try.prog W r b t v) (hA : DataW.TrodAll enc Try.prog W 0 (fun _ => true) true Try.f3.params.toList vs ds ps) :
    Calls Try.prog 3 ⟨vs⟩ W fun e w' => e = .returned (.bool true) ∧ Below W.heap.size W w' := by
  cases hb : Try.f3.body with
  | none => have := bodied; rw [hb] at this; cases this
  | some c => exact law_callsT fit kids plain (seatPrims_ok fit shut_all sort_all cmp_all) Try.func3 hb (fun t ht => by rw [Try.params3] at ht; simp only [List.mem_cons, List.not_mem_nil, or_false] at ht; rcases ht with rfl | rfl <;> decide) hv hA (ends_walk)

set_option maxRecDepth 100000 in
theorem lifted (os : Os) (started : os.Started) (H : Type) (enc : TypeId × Value → H) :
    ReturnsInHanded {} Try.checked os 3 .any (Rows.heapEndsSpec.pre6 enc Try.prog Try.f3 Rows.heapEndsRow.domain false) (Rows.heapEndsSpec.post enc Try.prog Try.f3 false true false false) := by
  refine returnsInHanded_of_change (C := Try.checked) own started (by kernel_rfl) Try.func3
    (ChangeSpec.witness6 (enc := enc) (C := Try.checked) false ⟨#[], #[.slice none 0 0, .slice none 0 0], []⟩ 8 (by kernel_rfl) (by kernel_rfl) (by kernel_rfl) (by kernel_rfl)) ?_
  intro W base args ds gs before hval0 hW hcnd _
  have hval : ∀ (j : Nat) t v, Try.f3.params[j]? = some t → args[j]? = some v → Value.okWide Try.prog W .any base t v := hval0
  have hW' := hW
  obtain ⟨p, q, hA0, hV, rfl, hfz, hnd⟩ := hW
  have hA : DataW.TrodAll enc Try.prog W 0 (fun _ => true) true Try.f3.params.toList args.toList ds p := hA0
  obtain ⟨rfl, rfl⟩ := trodVars_none hV
  have hlt : ∀ x ∈ p, x.block < W.heap.size := fun x hx => hW'.lt x (by simpa using hx)
  have hT : ∀ t ∈ Try.f3.params.toList, t < Try.prog.types.size := fun t ht => (by rw [Try.params3] at ht; simp only [List.mem_cons, List.not_mem_nil, or_false] at ht; rcases ht with rfl | rfl <;> exact of_decide_eq_true (by kernel_rfl))
  have hcalls := walk (fun j t v a b => ⟨_, _, hval j t v (by simpa using a) (by simpa using b)⟩) hA
  refine hcalls.mono fun e W' ⟨he, hg⟩ => ?_
  subst he
  have hafter := fun sp hsp => args_after kids full hT hA hlt hg sp hsp
  have hA2 := hA
  rw [Try.params3] at hA2
  obtain ⟨d0, d1, rfl⟩ : ∃ d0 d1, ds = [d0, d1] := by
    obtain ⟨_, _, d0, r0, _, _, _, rfl, _, _, h0⟩ := trodAll_cons hA2; obtain ⟨_, _, d1, r1, _, _, _, rfl, _, _, h1⟩ := trodAll_cons h0; obtain ⟨_, rfl, _⟩ := trodAll_nil h1; exact ⟨d0, d1, rfl⟩
  simp only [List.append_nil] at hW' ⊢
  exact ⟨_, rfl, Go.Ab.post_below (pa := p) (pv := []) hW' (fun _ _ _ => (trodAll_cons_mk (shut_bool Try.underlying4 _) trodAll_mk0)) (fun sp hsp => hafter sp (fun x hx => hsp x (by simpa using hx))) (fun _ _ => rfl) (by simp)
    hg (ok_one (by kernel_rfl) rfl (okWide_bool_mk Try.underlying4 _))⟩

theorem over : Rows.heapEndsRow.holds Try.pinned (OpenSpec.ofChange Rows.heapEndsSpec) :=
  OpenClaim.holds_of_wide 3 Try.f3 rfl rfl rfl rfl rfl rfl rfl ⟨rfl, rfl, rfl, rfl, rfl⟩ rfl rfl rfl rfl rfl (by kernel_rfl) Try.func3 (by kernel_rfl)
    (of_decide_eq_true (by kernel_rfl)) (by unfold Func.isWrapper; first | (rw [if_pos (by decide +kernel)]; kernel_rfl) | (rw [if_neg (by decide +kernel)]; exact ⟨rfl, rfl⟩))
    (fun os started H enc _ => lifted os started H enc)

/-- The statement. -/
theorem proved : Rows.HeapEndsSaid :=
  over
#print axioms proved
end Go.Proofs.Ytcenbfjhhaialaa.heapEnds
