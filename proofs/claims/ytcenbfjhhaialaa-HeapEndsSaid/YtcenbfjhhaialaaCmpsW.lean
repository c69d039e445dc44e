/- slices.SortFunc by the store's comparison, at this program. -/
import Derived.Test.YtcenbfjhhaialaaLayFW
import Derived.Test.YtcenbfjhhaialaaAdO
import Derived.Test.YtcenbfjhhaialaaAdL
import Derived.Test.YtcenbfjhhaialaaChecked
import Derived.Shelf.SlicesG.Cmp
import Derived.WalkKit
import Derived.Deep.QuietTactic
import Derived.BigQuiet
set_option linter.unusedVariables false
namespace Go.Proofs.Ytcenbfjhhaialaa
open Go.RowKit Go.Shelf Go.Lib Go.Proofs Go.Ab

set_option maxHeartbeats 2000000 in
/-- (*store.Store).lying's comparison: of what two pointers point at first. -/
theorem closure47 (a b : Addr) (x y : Int) (W : World) (ha : W.cell? a = some (.int .i64 x)) (hb : W.cell? b = some (.int .i64 y)) :
    Calls Try.prog 47 #[.pointer (some a), .pointer (some b)] W fun e w' => e = .returned (.int .i64 (Lib.compareInt x y)) ∧ ∃ q, w' = W.drewN q := by
  obtain ⟨ab, ao, asp⟩ := a
  obtain ⟨bb, bo, bsp⟩ := b
  have hcon := fun W => AnyG.cmp_Compare_int Try.cmpL x y W
  change ∀ W, Calls Try.prog 48 _ _ _ at hcon
  generalize Lib.compareInt x y = r at hcon ⊢
  go_enter Try.func47, Try.ntmps47
  go_wp2
  go_quiet (first | (go_at_call 48; exact Calls.quiet_of_same (hcon _)))
  go_wp2
  go_ret
  exact ⟨rfl, nq, rfl⟩
theorem cmpsA : FuncSorted Try.prog 46 47 :=
  funcSorted_of (ρ := Try.sortF_ren) Try.sortF (enters_of Try.func46 (by kernel_rfl) rfl) (enters_of Try.func47 (by kernel_rfl) rfl) closure47
theorem cmp_all : ∀ f gs, findF f cmpFns = some gs → ∀ g ∈ gs, FuncSorted Try.prog f g := by
  intro f gs h g hg
  unfold findF findF at h
  cases hf : Nat.beq f 46 with
  | false => rw [hf] at h; cases h
  | true =>
    rw [hf] at h
    cases h
    rw [Nat.eq_of_beq_eq_true hf]
    simp only [List.mem_cons, List.not_mem_nil, or_false] at hg
    subst hg
    exact cmpsA
end Go.Proofs.Ytcenbfjhhaialaa
