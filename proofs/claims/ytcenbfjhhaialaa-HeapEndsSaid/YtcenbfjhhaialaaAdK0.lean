/- slices.Sorted of a map's keys, as a 'prim' (its proof: AdK). -/
import Derived.Test.YtcenbfjhhaialaaAdL0
set_option linter.unusedVariables false
namespace Go.Ab
section
variable {H : Type} [MapI H AObj]
def hasZ (x : Int) : List Int → Bool
  | [] => false
  | y :: l => (x == y) || hasZ x l
def noDupZ : List Int → Bool
  | [] => true
  | x :: l => !hasZ x l && noDupZ l
def noDupN : List Nat → Bool
  | [] => true
  | x :: l => !hasN x l && noDupN l
def insZ (x : Int) : List Int → List Int
  | [] => [x]
  | y :: l => bif decide (x ≤ y) then x :: y :: l else y :: insZ x l
def sortZ : List Int → List Int
  | [] => []
  | x :: l => insZ x (sortZ l)
/-- A map's keys, whole numbers of 64 bits. -/
def keysZ : List (V × V × Nat) → Option (List Int)
  | [] => some []
  | (.int .i64 x, _, _) :: es => bif decide (-9223372036854775808 ≤ x) && decide (x ≤ 9223372036854775807) then match keysZ es with
      | some l => some (x :: l)
      | none => none
    else none
  | _ :: _ => none
def goodMap (es : List (V × V × Nat)) (ck : Nat) (ks : List Int) : Bool :=
  noDupZ ks && (noDupN (es.map fun x => x.2.2) && ((es.all fun x => Nat.blt x.2.2 ck) && Nat.ble es.length 1000000))
/-- slices.Sorted of maps.Keys' iterator: its function's number is among the list. -/
def sortedPrim (gs : List Nat) : (Tgt → List V → M H V) → List V → M H V := fun _ xs => match xs with
  | [.func (.func g) [] [.ptr (some (n, 0))]] =>
    if hasN g gs = true then bnd (getM n) fun
      | .cells true true [.map none] => ret (.slice none 0 (.known 0))
      | .cells true true [.map (some q)] => bnd (getM q) fun
        | .map _ es ck => match keysZ es with
          | some ks => if goodMap es ck ks = true then
              match ks with
              | [] => ret (.slice none 0 (.known 0))
              | k :: ks => bnd (newM (.cells true true ((sortZ (k :: ks)).map (V.int .i64)))) fun r => ret (.slice (some (r, 0)) (ks.length + 1) (.upTo 1))
            else fail "sorted: a map"
          | none => fail "sorted: keys"
        | _ => fail "sorted: map"
      | _ => fail "sorted: box"
    else fail "sorted: iterator"
  | _ => fail "sorted: what"
theorem sortedPrim_local {gs : List Nat} {call : Tgt → List V → M H V} {xs : List V} : Local (sortedPrim gs call xs : M H V) := by
  unfold sortedPrim
  repeat' first | with_reducible exact Local.fail | with_reducible exact Local.ret | with_reducible exact Local.get | with_reducible exact Local.new | (with_reducible refine Local.bnd ?_ fun _ => ?_) | split
end
end Go.Ab
