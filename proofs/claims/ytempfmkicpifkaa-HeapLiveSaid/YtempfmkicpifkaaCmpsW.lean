/- slices.SortFunc by the store's comparison, at this program. -/
import Derived.Test.YtempfmkicpifkaaLayFW
import Derived.Test.YtempfmkicpifkaaAdO
import Derived.Test.YtempfmkicpifkaaAdL
import Derived.Test.YtempfmkicpifkaaChecked
import Derived.Shelf.SlicesG.Cmp
import Derived.WalkKit
import Derived.Deep.QuietTactic
import Derived.BigQuiet
set_option linter.unusedVariables false
namespace Go.Proofs.Ytempfmkicpifkaa
open Go.RowKit Go.Shelf Go.Lib Go.Proofs Go.Ab

set_option maxHeartbeats 2000000 in
/-- (*store.Store).lying's comparison: of what two pointers point at first. -/
theorem closure139 (a b : Addr) (x y : Int) (W : World) (ha : W.cell? a = some (.int .i64 x)) (hb : W.cell? b = some (.int .i64 y)) :
    Calls Try.prog 139 #[.pointer (some a), .pointer (some b)] W fun e w' => e = .returned (.int .i64 (Lib.compareInt x y)) ∧ ∃ q, w' = W.drewN q := by
  obtain ⟨ab, ao, asp⟩ := a
  obtain ⟨bb, bo, bsp⟩ := b
  have hcon := fun W => AnyG.cmp_Compare_int Try.cmpL x y W
  change ∀ W, Calls Try.prog 140 _ _ _ at hcon
  generalize Lib.compareInt x y = r at hcon ⊢
  go_enter Try.func139, Try.ntmps139
  go_wp2
  go_quiet (first | (go_at_call 140; exact Calls.quiet_of_same (hcon _)))
  go_wp2
  go_ret
  exact ⟨rfl, nq, rfl⟩
theorem cmpsA : FuncSorted Try.prog 138 139 :=
  funcSorted_of (ρ := Try.sortF_ren) Try.sortF (enters_of Try.func138 (by kernel_rfl) rfl) (enters_of Try.func139 (by kernel_rfl) rfl) closure139
theorem cmp_all : ∀ f gs, findF f cmpFns = some gs → ∀ g ∈ gs, FuncSorted Try.prog f g := by
  intro f gs h g hg
  unfold findF findF at h
  cases hf : Nat.beq f 138 with
  | false => rw [hf] at h; cases h
  | true =>
    rw [hf] at h
    cases h
    rw [Nat.eq_of_beq_eq_true hf]
    simp only [List.mem_cons, List.not_mem_nil, or_false] at hg
    subst hg
    exact cmpsA
end Go.Proofs.Ytempfmkicpifkaa
