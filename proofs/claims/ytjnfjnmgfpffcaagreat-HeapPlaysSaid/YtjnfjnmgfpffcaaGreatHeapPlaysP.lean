/-
  HeapPlays returns true for every input, and its arguments read behind the call as ahead of it. Whatever is made, asked for, collected, forgotten: each answer, all words, the capacity, the counts of all handles are the reference's.
  The walk goes by a calculus over the abstract evaluator (YtjnfjnmgfpffcaaGreatAc1 and on, YtjnfjnmgfpffcaaGreatAd1 and on).
-/
import Derived.Test.YtjnfjnmgfpffcaaGreatRows
import Derived.Test.YtjnfjnmgfpffcaaGreatPb
import Derived.Test.YtjnfjnmgfpffcaaGreatPc
import Derived.Test.YtjnfjnmgfpffcaaGreatPg
import Derived.WalkKit
import Derived.ProofKit
import Derived.OpenShut
set_option linter.unusedVariables false
set_option linter.unusedSectionVars false
set_option linter.unusedSimpArgs false
set_option linter.unnecessarySimpa false
namespace Go.Proofs.YtjnfjnmgfpffcaaGreat.heapPlays
open Go.ChangeShapes Go.WideShapes Go.ChangeAt Go.RowKit Go.Ab
theorem own : ownKnob Tryz.prog.godebug = none := by kernel_rfl
theorem kids : Kids Tryz.prog (· < Tryz.prog.types.size) := kids_rows (by kernel_rfl) (by kernel_rfl)
theorem full : ∀ t e, t < Tryz.prog.types.size -> Tryz.prog.underlying t = some (.slice e) -> 0 < Tryz.prog.cellsOf e := slices_full_of _ (by kernel_rfl)
theorem plain : plainAll Tryz.prog [3, 4, 22, 37] = true := by kernel_rfl
theorem bodied : (match Tryz.f3.body with | some _ => true | none => false) = true := by kernel_rfl
theorem walk {T : Type} {enc : TypeId × Value -> T} {W : World} {vs : List Value} {ds : List (DataW T)} {ps : List MemPlace} (hv : ∀ (j : Nat) t v, Tryz.f3.params.toList[j]? = some t -> vs[j]? = some v -> ∃ r b, Value.okWide Tryz.prog W r b t v) (hA : DataW.TrodAll enc Tryz.prog W 0 (fun _ => true) true Tryz.f3.params.toList vs ds ps) :
  Calls Tryz.prog 3 ⟨vs⟩ W fun e w' => e = .returned (.bool true) /\ Below W.heap.size W w' := by
 cases hb : Tryz.f3.body with
 | none => have := bodied; rw [hb] at this; cases this
 | some c => exact law_callsT fit kids plain (seatPrims_ok fit shut_all sort_all cmp_all) Tryz.func3 hb (fun t ht => by rw [Tryz.params3] at ht; simp only [List.mem_cons, List.not_mem_nil, or_false] at ht; rcases ht with rfl | rfl <;> decide) hv hA (hplays_walk)
set_option maxRecDepth 100000 in
theorem lifted (os : Os) (started : os.Started) (H : Type) (enc : TypeId × Value -> H) :
  ReturnsInHanded {} Tryz.checked os 3 .any (Rows.heapPlaysSpec.pre6 enc Tryz.prog Tryz.f3 Rows.heapPlaysRow.domain false) (Rows.heapPlaysSpec.post enc Tryz.prog Tryz.f3 false true false false) := by
 refine returnsInHanded_of_change (C := Tryz.checked) own started (by kernel_rfl) Tryz.func3
  (ChangeSpec.witness6 (enc := enc) (C := Tryz.checked) false ⟨#[], #[.int .i64 0, .slice none 0 0], []⟩ 8 (by kernel_rfl) (by kernel_rfl) (by kernel_rfl) (by kernel_rfl)) ?_
 intro W base args ds gs before hval0 hW hcnd _
 have hval : ∀ (j : Nat) t v, Tryz.f3.params[j]? = some t -> args[j]? = some v -> Value.okWide Tryz.prog W .any base t v := hval0
 have hW' := hW
 obtain ⟨p, q, hA0, hV, rfl, hfz, hnd⟩ := hW
 have hA : DataW.TrodAll enc Tryz.prog W 0 (fun _ => true) true Tryz.f3.params.toList args.toList ds p := hA0
 obtain ⟨rfl, rfl⟩ := trodVars_none hV
 have hlt : ∀ x ∈ p, x.block < W.heap.size := fun x hx => hW'.lt x (by simpa using hx)
 have hT : ∀ t ∈ Tryz.f3.params.toList, t < Tryz.prog.types.size := fun t ht => (by rw [Tryz.params3] at ht; simp only [List.mem_cons, List.not_mem_nil, or_false] at ht; rcases ht with rfl | rfl <;> exact of_decide_eq_true (by kernel_rfl))
 have hcalls := walk (fun j t v a b => ⟨_, _, hval j t v (by simpa using a) (by simpa using b)⟩) hA
 refine hcalls.mono fun e W' ⟨he, hg⟩ => ?_
 subst he
 have hafter := fun sp hsp => args_after kids full hT hA hlt hg sp hsp
 have hA2 := hA
 rw [Tryz.params3] at hA2
 obtain ⟨d0, d1, rfl⟩ : ∃ d0 d1, ds = [d0, d1] := by
  obtain ⟨_, _, d0, r0, _, _, _, rfl, _, _, h0⟩ := trodAll_cons hA2; obtain ⟨_, _, d1, r1, _, _, _, rfl, _, _, h1⟩ := trodAll_cons h0; obtain ⟨_, rfl, _⟩ := trodAll_nil h1; exact ⟨d0, d1, rfl⟩
 simp only [List.append_nil] at hW' ⊢
 exact ⟨_, rfl, Go.Ab.post_below (pa := p) (pv := []) hW' (fun _ _ _ => (trodAll_cons_mk (shut_bool Tryz.underlying4 _) trodAll_mk0)) (fun sp hsp => hafter sp (fun x hx => hsp x (by simpa using hx))) (fun _ _ => rfl) (by simp)
  hg (ok_one (by kernel_rfl) rfl (okWide_bool_mk Tryz.underlying4 _))⟩
theorem over : Rows.heapPlaysRow.holds Tryz.pinned (OpenSpec.ofChange Rows.heapPlaysSpec) :=
 OpenClaim.holds_of_wide 3 Tryz.f3 rfl rfl rfl rfl rfl rfl rfl ⟨rfl, rfl, rfl, rfl, rfl⟩ rfl rfl rfl rfl rfl (by kernel_rfl) Tryz.func3 (by kernel_rfl)
  (of_decide_eq_true (by kernel_rfl)) (by unfold Func.isWrapper; first | (rw [if_pos (by decide +kernel)]; kernel_rfl) | (rw [if_neg (by decide +kernel)]; exact ⟨rfl, rfl⟩))
  (fun os started H enc _ => lifted os started H enc)
theorem proved : Rows.HeapPlaysSaid :=
 over
#print axioms proved
end Go.Proofs.YtjnfjnmgfpffcaaGreat.heapPlays
