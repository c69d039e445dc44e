/- Functions that stand as 'prim' (their proofs: AdC). -/
import Derived.Test.YtcenbfjhhaialaaAd1
import Derived.Test.YtcenbfjhhaialaaAc20
set_option linter.unusedVariables false
namespace Go.Ab
section
variable {H : Type} [MapI H AObj]
/-- A function without parameters that answers 'true'. -/
def shutPrim : (Tgt → List V → M H V) → List V → M H V := fun _ xs => match xs with
  | [] => ret (.bool true)
  | _ :: _ => fail "shut"
theorem shutPrim_local {call : Tgt → List V → M H V} {xs : List V} : Local (shutPrim call xs : M H V) := by
  cases xs with
  | nil => exact Local.ret
  | cons _ _ => exact Local.fail
def shutPrims (l : List Nat) : Nat → Option ((Tgt → List V → M H V) → List V → M H V) := fun f => if l.contains f then some shutPrim else none
theorem shutPrims_local {l : List Nat} {f : Nat} {m : (Tgt → List V → M H V) → List V → M H V} {call : Tgt → List V → M H V} {xs : List V} (h : shutPrims l f = some m) : Local (m call xs) := by
  unfold shutPrims at h
  split at h
  · cases h; exact shutPrim_local
  · cases h
theorem shutPrim_wp {E : Type} [MapI E V] {cx : Cx} {l : List Nat} {f : Nat} {h : H} {c : Nat} (hf : l.contains f = true) : WpX (fun n => evFn E cx (shutPrims l) n (.fn f) []) h c fun v h' c' al => al = [] ∧ v = .bool true ∧ h' = h ∧ c' = c :=
  ⟨.bool true, h, c, [], ⟨rfl, rfl, rfl, rfl⟩, 1, fun n hn => by
    obtain ⟨n, rfl⟩ : ∃ m, n = m + 1 := ⟨n - 1, by omega⟩
    unfold evFn
    have : (shutPrims l f : Option ((Tgt → List V → M H V) → List V → M H V)) = some shutPrim := if_pos hf
    simp only [this]
    rfl⟩
end
end Go.Ab
