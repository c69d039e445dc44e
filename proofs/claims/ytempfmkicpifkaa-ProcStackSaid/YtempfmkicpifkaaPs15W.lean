/- ProcStack: the law on what was handed in. -/
import Derived.Test.YtempfmkicpifkaaPs14W
import Derived.WideShapes4
set_option linter.unusedVariables false
set_option linter.unusedSectionVars false
set_option linter.unusedSimpArgs false
set_option linter.unnecessarySimpa false
namespace Go.Proofs.Ytempfmkicpifkaa.Ps
open Go.Ab
set_option maxRecDepth 10000
theorem u8_of {z : Int} (h : (Lit.int .u8 z).wf = true) : 0 ≤ z ∧ z < 256 := by
  have e := (Lit.wf_int_iff _ _).1 h
  have h1 : IntKind.min .u8 = 0 := rfl
  have h2 : IntKind.max .u8 = 255 := rfl
  omega
theorem stack_walk {T : Type} {ds : List (DataW T)} : ∀ (h : HH) (c : Nat) (xs : List V), ArgsR Try.prog h c [22, 5] xs ds → Clear h c → WpX (cl 3 xs) h c fun v _ _ _ => v = .bool true := by
  intro h c xs r hcl
  cases r with
  | @cons _ _ x1 _ _ _ a ha r =>
    cases r with
    | @cons _ _ x2 _ _ _ b hb r =>
      cases r
      obtain ⟨ys, hl, hys⟩ := a.ints (e := 5) (k := .u8) rfl rfl (ha.trans rfl)
      obtain ⟨z, hz, _, hzw⟩ := b.inv_int (k := .u8) rfl
      have e1 : x2 = .int .u8 z := by
        have hb : isAggV x2 = false := hb.trans rfl
        cases x2 <;> first | (cases hb; done) | (simpa [cellsV] using hz)
      subst e1
      have hz2 := u8_of hzw
      obtain ⟨m, rfl⟩ : ∃ m : Nat, z = m := ⟨z.toNat, by omega⟩
      exact WpX.mono (stack_law hl (fun z hz => u8_of (hys z hz)) (by omega) hcl) fun v h' c' l q => q.2.2.2
end Go.Proofs.Ytempfmkicpifkaa.Ps
