/- No function of this seat's program holds a go statement: so the row's call goes nowhere. -/
import Derived.Test.YtfjnhimdnjgakaaGreatDoorRows
import Derived.ProofKit
import Derived.SevenTiedAt
import Derived.KernelRfl
set_option linter.unusedVariables false
namespace Go.Proofs.YtfjnhimdnjgakaaGreatDoor.stepCalls
open Go.ChangeShapes Go.WideShapes Go.ChangeAt Go.RowKit

theorem any_chunks {α : Type} {p : α → Bool} {n : Nat} : ∀ (k : Nat) (l : List α), (∀ i, i < k → ((l.drop (i * n)).take n).any p = false) → l.length ≤ k * n → l.any p = false
  | 0, l, _, h => by
    have : l = [] := List.length_eq_zero_iff.1 (by omega)
    subst this; rfl
  | k + 1, l, h, hl => by
    rw [← List.take_append_drop n l, List.any_append]
    have h0 := h 0 (Nat.zero_lt_succ k)
    rw [Nat.zero_mul, List.drop_zero] at h0
    rw [h0, Bool.false_or]
    have e : (k + 1) * n = k * n + n := Nat.succ_mul k n
    refine any_chunks (n := n) k (l.drop n) (fun i hi => ?_) (by rw [List.length_drop]; omega)
    have := h (i + 1) (by omega)
    rw [Nat.succ_mul] at this
    rw [List.drop_drop]
    rw [Nat.add_comm] at this
    exact this
theorem goesBy_none {c : OpenClaim} {P : Program} (h : P.funcs.toList.any Func.goes = false) (hs : c.start = .entering) : false = c.goesBy P := by
  have one : ∀ g : FuncId, (P.funcs[g]?).any Func.goes = false := fun g => by
    cases hg : P.funcs[g]? with
    | none => rfl
    | some fn =>
      have hm : fn ∈ P.funcs.toList := Array.mem_toList_iff.2 (Array.mem_of_getElem? hg)
      exact Bool.eq_false_iff.2 fun ht => by
        have := (List.any_eq_true (p := Func.goes)).2 ⟨fn, hm, ht⟩
        rw [h] at this; cases this
  have all : P.funcs.any Func.goes = false := by rw [← Array.any_toList]; exact h
  have goes : ∀ f, P.goes f = false := fun f => by
    unfold Program.goes
    rw [all, Bool.and_false, Bool.or_false]
    exact Bool.eq_false_iff.2 fun ht => by
      obtain ⟨g, _, hg⟩ := List.any_eq_true.1 ht
      rw [one g] at hg; cases hg
  unfold OpenClaim.goesBy Program.goesAt Program.goesFrom
  rw [hs]
  cases P.funcNamed c.func with
  | none => rfl
  | some f => simp [goes f]
theorem goes0 : ((Tryz.prog.funcs.toList.drop (0 * 64)).take 64).any Func.goes = false := by kernel_rfl
theorem goes1 : ((Tryz.prog.funcs.toList.drop (1 * 64)).take 64).any Func.goes = false := by kernel_rfl
theorem goes2 : ((Tryz.prog.funcs.toList.drop (2 * 64)).take 64).any Func.goes = false := by kernel_rfl
theorem goes3 : ((Tryz.prog.funcs.toList.drop (3 * 64)).take 64).any Func.goes = false := by kernel_rfl
theorem goes4 : ((Tryz.prog.funcs.toList.drop (4 * 64)).take 64).any Func.goes = false := by kernel_rfl
theorem goes5 : ((Tryz.prog.funcs.toList.drop (5 * 64)).take 64).any Func.goes = false := by kernel_rfl
theorem goes6 : ((Tryz.prog.funcs.toList.drop (6 * 64)).take 64).any Func.goes = false := by kernel_rfl
theorem goes7 : ((Tryz.prog.funcs.toList.drop (7 * 64)).take 64).any Func.goes = false := by kernel_rfl
theorem goes8 : ((Tryz.prog.funcs.toList.drop (8 * 64)).take 64).any Func.goes = false := by kernel_rfl
theorem goes9 : ((Tryz.prog.funcs.toList.drop (9 * 64)).take 64).any Func.goes = false := by kernel_rfl
theorem goesLen : decide (Tryz.prog.funcs.toList.length ≤ 10 * 64) = true := by kernel_rfl
theorem goes_no : Tryz.prog.funcs.toList.any Func.goes = false :=
  any_chunks (n := 64) 10 _ (fun i hi => by
    match i, hi with
    | 0, _ => exact goes0
    | 1, _ => exact goes1
    | 2, _ => exact goes2
    | 3, _ => exact goes3
    | 4, _ => exact goes4
    | 5, _ => exact goes5
    | 6, _ => exact goes6
    | 7, _ => exact goes7
    | 8, _ => exact goes8
    | 9, _ => exact goes9) (of_decide_eq_true goesLen)
theorem stays : false = Rows.stepCallsRow.goesBy Tryz.pinned.checked.prog := goesBy_none goes_no rfl
end Go.Proofs.YtfjnhimdnjgakaaGreatDoor.stepCalls
