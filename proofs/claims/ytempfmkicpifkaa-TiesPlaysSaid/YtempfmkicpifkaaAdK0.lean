/- slices.Sorted of a map's keys, as a 'prim' (its proof: AdK). -/
import Derived.Test.YtempfmkicpifkaaAdL0
set_option linter.unusedVariables false
namespace Go.Ab
section
variable {H : Type} [MapI H AObj]
def hasZ (x : Int) : List Int → Bool
  | [] => false
  | y :: l => (x == y) || hasZ x l
def noDupZ : List Int → Bool
  | [] => true
  | x :: l => !hasZ x l && noDupZ l
def noDupN : List Nat → Bool
  | [] => true
  | x :: l => !hasN x l && noDupN l
def insZ (x : Int) : List Int → List Int
  | [] => [x]
  | y :: l => bif decide (x ≤ y) then x :: y :: l else y :: insZ x l
def sortZ : List Int → List Int
  | [] => []
  | x :: l => insZ x (sortZ l)
/-- A map's keys, whole numbers of 64 bits. -/
def keysZ : List (V × V × Nat) → Option (List Int)
  | [] => some []
  | (.int .i64 x, _, _) :: es => bif decide (-9223372036854775808 ≤ x) && decide (x ≤ 9223372036854775807) then match keysZ es with
      | some l => some (x :: l)
      | none => none
    else none
  | _ :: _ => none
def goodMap (es : List (V × V × Nat)) (ck : Nat) (ks : List Int) : Bool :=
  noDupZ ks && (noDupN (es.map fun x => x.2.2) && ((es.all fun x => Nat.blt x.2.2 ck) && Nat.ble es.length 1000000))
/-- slices.Sorted of maps.Keys' iterator: its function's number is among the list. -/
def sortedPrim (gs : List Nat) : (Tgt → List V → M H V) → List V → M H V := fun _ xs => match xs with
  | [.func (.func g) [] [.ptr (some (n, 0))]] =>
    if hasN g gs = true then bnd (getM n) fun
      | .cells true true [.map none] => ret (.slice none 0 (.known 0))
      | .cells true true [.map (some q)] => bnd (getM q) fun
        | .map _ es ck => match keysZ es with
          | some ks => if goodMap es ck ks = true then
              match ks with
              | [] => ret (.slice none 0 (.known 0))
              | k :: ks => bnd (newM (.cells true true ((sortZ (k :: ks)).map (V.int .i64)))) fun r => ret (.slice (some (r, 0)) (ks.length + 1) (.upTo 1))
            else fail "sorted: a map"
          | none => fail "sorted: keys"
        | _ => fail "sorted: map"
      | _ => fail "sorted: box"
    else fail "sorted: iterator"
  | _ => fail "sorted: what"
theorem sortedPrim_local {gs : List Nat} {call : Tgt → List V → M H V} {xs : List V} : Local (sortedPrim gs call xs : M H V) := by
  unfold sortedPrim
  repeat' first | with_reducible exact Local.fail | with_reducible exact Local.ret | with_reducible exact Local.get | with_reducible exact Local.new | (with_reducible refine Local.bnd ?_ fun _ => ?_) | split
def findF (f : Nat) : List (Nat × List Nat) → Option (List Nat)
  | [] => none
  | (g, l) :: r => bif Nat.beq f g then some l else findF f r
/-- A seat's 'prims': functions without parameters that answer true; slices.Sorted, each with its iterators. -/
def seatPrims (l : List Nat) (s : List (Nat × List Nat)) : Nat → Option ((Tgt → List V → M H V) → List V → M H V) := fun f => match findF f s with
  | some gs => some (sortedPrim gs)
  | none => shutPrims l f
theorem seatPrims_local {l : List Nat} {s : List (Nat × List Nat)} {f : Nat} {m : (Tgt → List V → M H V) → List V → M H V} {call : Tgt → List V → M H V} {xs : List V} (h : seatPrims l s f = some m) : Local (m call xs) := by
  unfold seatPrims at h
  split at h
  · cases h; exact sortedPrim_local
  · exact shutPrims_local h
theorem seatShut_wp {E : Type} [MapI E V] {cx : Cx} {l : List Nat} {s : List (Nat × List Nat)} {f : Nat} {h : H} {c : Nat} (hf : (l.contains f && (findF f s).isNone) = true) :
    WpX (fun n => evFn E cx (seatPrims l s) n (.fn f) []) h c fun v h' c' al => al = [] ∧ v = .bool true ∧ h' = h ∧ c' = c :=
  ⟨.bool true, h, c, [], ⟨rfl, rfl, rfl, rfl⟩, 1, fun n hn => by
    obtain ⟨n, rfl⟩ : ∃ m, n = m + 1 := ⟨n - 1, by omega⟩
    unfold evFn
    rw [Bool.and_eq_true] at hf
    have h2 : findF f s = none := by cases hx : findF f s with
      | none => rfl
      | some x => rw [hx] at hf; cases hf.2
    have : (seatPrims l s f : Option ((Tgt → List V → M H V) → List V → M H V)) = some shutPrim := by
      unfold seatPrims
      rw [h2]
      exact if_pos hf.1
    simp only [this]
    rfl⟩
end
end Go.Ab
