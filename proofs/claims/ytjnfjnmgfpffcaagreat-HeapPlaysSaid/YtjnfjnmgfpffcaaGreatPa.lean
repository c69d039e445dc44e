/- The abstract evaluator: values, heap, the monad, the operations. No project text, no statement: definitions alone. A calculus over the abstract evaluator: what a run with enough fuel comes to. Frames and heaps are functions. The abstract evaluator against the model: when an abstract heap stands for a world. The abstract evaluator against the model: types, loads, stores. The abstract evaluator against the model: operations that only compute. The abstract evaluator against the model: operations on memory. The abstract evaluator against the model: comparisons, slice expressions, addresses of elements, lengths, maps. The abstract evaluator against the model: binary operations, slice expressions, addresses of elements, lengths. The abstract evaluator against the model: slice expressions, addresses of elements, lengths, least and greatest. The abstract evaluator against the model: maps. The abstract evaluator against the model: append, copy, least and greatest, conversions, assertions. The abstract evaluator against the model: append. The abstract evaluator against the model: copy, least and greatest, conversions, assertions, methods, a string's runes. -/
import Derived.Orders
import Derived.Below
import Derived.Laws.Cells
import Derived.Laws.Rows
import Derived.Laws.Entries
import Derived.ChangeKeysEq
import Derived.Laws.StructEq
import Derived.Laws.Slices
import Derived.Laws.Tables
import Derived.Great.BuildSlice
import Derived.Laws.Append
import Derived.IntWalk
import Derived.Laws.BytesString
set_option linter.unusedVariables false
set_option linter.unusedSectionVars false
set_option linter.unusedSimpArgs false
set_option linter.unnecessarySimpa false
namespace Go.Ab
inductive Cap where
 | known (k : Nat)
 | upTo (sz : Nat)
 deriving Inhabited
inductive V where
 | bool (b : Bool)
 | int (k : IntKind) (n : Int)
 | str (s : List UInt8)
 | ptr (a : Option (Nat × Nat))
 | slice (a : Option (Nat × Nat)) (len : Nat) (cap : Cap)
 | map (r : Option Nat)
 | func (fn : Fn) (first captured : List V)
 | nilFunc
 | iface (t : TypeId) (v : V)
 | nilIface
 | agg (cs : List V)
 | tuple (vs : List V)
 /-- the yield function of a loop over a function: the loop's name -/
 | yld (n : Nat)
 deriving Inhabited
inductive Ex where
 | normal
 | exit (id : Nat)
 | ret
 deriving Inhabited
inductive LSt where
 | ready
 | busy
 | done (j : Ex)
 | over
 deriving Inhabited
inductive AObj where
 | cells (rw clean : Bool) (cs : List V)
 | map (rw : Bool) (es : List (V × V × Nat)) (clock : Nat)
 | siter (s : List UInt8) (pos : Nat)
 /-- an iterator over a map: the map, its clock at the beginning, the stamps handed out, the clock at the last step -/
 | miter (m : Option Nat) (since : Nat) (seen : List Nat) (last : Nat)
 /-- a loop over a function: how it stands, its block of deferred calls, the frame's size, what is known of the frame, the parameters, the code of a round -/
 | loop (st : LSt) (d N : Nat) (es : List (Nat × V)) (ps : List Nat) (assign body : Code)
 /-- a block of deferred calls, empty; one that has been taken -/
 | defs
 | spent
 | dead
 deriving Inhabited
inductive Tgt where
 | fn (f : Nat)
 | yl (n : Nat)
inductive Acc where
 | rd (n : Nat)
 | wr (n : Nat)
def Acc.name : Acc -> Nat
 | .rd n => n
 | .wr n => n
def Acc.writes : Acc -> Bool
 | .rd _ => false
 | .wr _ => true
class MapI (S : Type) (α : outParam Type) where
 emp : S
 get : S -> Nat -> Option α
 set : S -> Nat -> α -> S
 get_emp : ∀ n, get emp n = none
 get_same : ∀ s n x, get (set s n x) n = some x
 get_ne : ∀ s n m x, n ≠ m -> get (set s n x) m = get s m
theorem zf {n m : Nat} (h : Nat.ble n m = true) : n <= m := Nat.le_of_ble_eq_true h
theorem zg {α : Type _} {a : α} (y : α) {l : List α} (h : a ∈ l) : a ∈ y :: l := List.mem_cons_of_mem y h
theorem zh {α : Type _} {a : α} {l : List α} (m : List α) (h : a ∈ l) : a ∈ l ++ m := List.mem_append_left m h
theorem zi {α : Type _} {a : α} (l : List α) {m : List α} (h : a ∈ m) : a ∈ l ++ m := List.mem_append_right l h
theorem zj {α : Type _} {l : List α} {i : Nat} {a : α} (h : l[i]? = some a) : ∃ h : i < l.length, l[i] = a := List.getElem?_eq_some_iff.1 h
theorem zk {α : Type _} {a : α} {l m : List α} (h : a ∈ l ++ m) : a ∈ l \/ a ∈ m := List.mem_append.1 h
theorem zl {α : Type _} {a y : α} {l : List α} (h : a ∈ y :: l) : a = y \/ a ∈ l := List.mem_cons.1 h
theorem zm {α : Type _} {a y : α} (h : a ∈ [y]) : a = y := List.mem_singleton.1 h
theorem zo {α : Type _} {l : List α} {i : Nat} {a : α} (h : l[i]? = some a) : a ∈ l := List.mem_of_getElem? h
theorem zp {α : Type _} {l : List α} {i : Nat} (h : i < l.length) : l[i]? = some l[i] := List.getElem?_eq_getElem h
theorem zq {α : Type _} {a : α} {l : List α} : a ∈ a :: l := List.mem_cons_self
theorem zr {α : Type _} {l m : List α} : (l ++ m).length = l.length + m.length := List.length_append
theorem zt {S : Type} {α : outParam Type} [MapI S α] (s : S) (n : Nat) (x : α) : MapI.get (MapI.set s n x) n = some x := MapI.get_same s n x
theorem zu {S : Type} {α : outParam Type} [MapI S α] (s : S) (n m : Nat) (x : α) (h : n ≠ m) : MapI.get (MapI.set s n x) m = MapI.get s m := MapI.get_ne s n m x h
inductive Res (H α : Type) where
 | ok (a : α) (h : H) (c : Nat) (l : List Acc)
 | err (e : String)
def M (H α : Type) : Type := H -> Nat -> Res H α
section
variable {H : Type} {α β : Type}
def ret (a : α) : M H α := fun h c => .ok a h c []
def fail (e : String) : M H α := fun _ _ => .err e
def bnd (m : M H α) (f : α -> M H β) : M H β := fun h c =>
 match m h c with
 | .err e => .err e
 | .ok a h c l =>
  match f a h c with
  | .err e => .err e
  | .ok b h c l' => .ok b h c (l ++ l')
def listen (m : M H α) : M H (α × List Acc) := fun h c =>
 match m h c with
 | .err e => .err e
 | .ok a h c l => .ok (a, l) h c l
def lift (e : String) : Option α -> M H α
 | some a => ret a
 | none => fail e
variable [MapI H AObj]
def getM (n : Nat) : M H AObj := fun h c =>
 match MapI.get h n with
 | some o => .ok o h c [.rd n]
 | none => .err "get: no such name"
def setM (n : Nat) (o : AObj) : M H Unit := fun h c =>
 match MapI.get h n with
 | some _ => .ok () (MapI.set h n o) c [.wr n]
 | none => .err "set: no such name"
def newM (o : AObj) : M H Nat := fun h c => .ok c (MapI.set h c o) (c + 1) [.wr c]
end
def nth {α : Type} : List α -> Nat -> Option α
 | [], _ => none
 | x :: _, 0 => some x
 | _ :: l, n + 1 => nth l n
def ovr {α : Type} : List α -> List α -> List α
 | c :: cs, v :: vs => v :: ovr cs vs
 | cs, [] => cs
 | [], _ :: _ => []
def yu {α : Type} : List α -> Nat -> List α -> List α
 | cs, 0, vs => ovr cs vs
 | [], _ + 1, _ => []
 | c :: cs, o + 1, vs => c :: yu cs o vs
def cut {α : Type} (cs : List α) (o n : Nat) : Option (List α) :=
 if o + n <= cs.length then some ((cs.drop o).take n) else none
def reps {α : Type} : Nat -> List α -> List α
 | 0, _ => []
 | n + 1, l => l ++ reps n l
def toV1 : Value -> Option V
 | .bool b => some (.bool b)
 | .int k n => some (.int k n)
 | .string s => some (.str s.data.toList)
 | .pointer none => some (.ptr none)
 | .slice none 0 0 => some (.slice none 0 (.known 0))
 | .map none => some (.map none)
 | .func (.func f) a b => match a.toList, b.toList with
  | [], [] => some (.func (.func f) [] [])
  | _, _ => none
 | .nilFunc => some .nilFunc
 | .nilIface => some .nilIface
 | _ => none
def toVs : List Value -> Option (List V)
 | [] => some []
 | v :: vs => match toV1 v with
  | none => none
  | some x => match toVs vs with
   | none => none
   | some xs => some (x :: xs)
def toV : Value -> Option V
 | .agg cs => match toVs cs.toList with
  | some l => some (.agg l)
  | none => none
 | v => toV1 v
structure Cx where
 fn : Nat -> Option Func
 ty : Nat -> Option TypeInfo
 /-- how jd globals are named -/
 ng : Nat
 /-- structs at which == is the plain one -/
 eqOk : Nat -> Bool
def Cx.desc (cx : Cx) (t : Nat) : Option TypeDesc :=
 match cx.ty t with
 | some i => match i.desc with
  | .named _ u => match cx.ty u with
   | some j => some j.desc
   | none => none
  | d => some d
 | none => none
def Cx.size (cx : Cx) (t : Nat) : Option Nat :=
 match cx.ty t with
 | some i => some i.size
 | none => none
def Cx.zero (cx : Cx) (t : Nat) : Option V :=
 match cx.ty t with
 | some i => match i.zero with
  | some v => toV v
  | none => none
 | none => none
def aggD : TypeDesc -> Bool
 | .struct _ | .array _ _ => true
 | _ => false
def yR : V -> List V
 | .agg cs => cs
 | v => [v]
def jR : V -> Bool
 | .agg _ | .tuple _ => false
 | _ => true
section
variable {H : Type} [MapI H AObj]
def loadC (n o k : Nat) : M H (List V) := bnd (getM n) fun
 | .cells _ _ cs => lift "load: no such cells" (cut cs o k)
 | _ => fail "load: not cells"
def storeC (n o : Nat) (vs : List V) : M H Unit := bnd (getM n) fun
 | .cells true cl cs =>
  if o + vs.length <= cs.length then
   if vs.all jR then setM n (.cells true cl (yu cs o vs)) else fail "store: not of one cell"
  else fail "store: no such cells"
 | _ => fail "store: not cells that may be written"
def loadT (cx : Cx) (t : Nat) (n o : Nat) : M H V :=
 match cx.desc t with
 | none => fail "load: type"
 | some d =>
  if aggD d then
   bnd (lift "load: size" (cx.size t)) fun k => bnd (loadC n o k) fun cs => ret (.agg cs)
  else bnd (loadC n o 1) fun
   | [v] => ret v
   | _ => fail "load: one cell"
def storeT (cx : Cx) (t : Nat) (n o : Nat) (v : V) : M H Unit :=
 match cx.size t with
 | none => fail "store: size"
 | some k => if (yR v).length = k then storeC n o (yR v) else fail "store: another size"
def asP : V -> M H (Nat × Nat)
 | .ptr (some a) => ret a
 | _ => fail "pointer expected"
def asI : V -> M H Int
 | .int _ n => ret n
 | _ => fail "int expected"
def strEq : List UInt8 -> List UInt8 -> Bool
 | [], [] => true
 | a :: x, b :: y => Nat.beq a.toNat b.toNat && strEq x y
 | _, _ => false
def strLt : List UInt8 -> List UInt8 -> Bool
 | _, [] => false
 | [], _ :: _ => true
 | a :: x, b :: y => Nat.blt a.toNat b.toNat || (Nat.beq a.toNat b.toNat && strLt x y)
def intBin (op : BinOp) (k : IntKind) (x y : Int) : Option V :=
 match op with
 | .add => some (.int k (k.wrap (x + y)))
 | .sub => some (.int k (k.wrap (x - y)))
 | .mul => some (.int k (k.wrap (x * y)))
 | .quo => if y = 0 then none else some (.int k (k.wrap (x.tdiv y)))
 | .rem => if y = 0 then none else some (.int k (x.tmod y))
 | .and => some (.int k (k.wrap (BitVec.ofInt k.bits x &&& BitVec.ofInt k.bits y).toNat))
 | .or => some (.int k (k.wrap (BitVec.ofInt k.bits x ||| BitVec.ofInt k.bits y).toNat))
 | .xor => some (.int k (k.wrap (BitVec.ofInt k.bits x ^^^ BitVec.ofInt k.bits y).toNat))
 | .andNot => some (.int k (k.wrap (BitVec.ofInt k.bits x &&& ~~~ BitVec.ofInt k.bits y).toNat))
 | .eql => some (.bool (x == y))
 | .neq => some (.bool (x != y))
 | .lss => some (.bool (x < y))
 | .leq => some (.bool (x <= y))
 | .gtr => some (.bool (x > y))
 | .geq => some (.bool (x >= y))
 | _ => none
def kB (op : BinOp) (k : IntKind) (x y : Int) : Option V :=
 if y < 0 then none else
 match op with
 | .shl => some (.int k (k.wrap (x * 2 ^ (min y.toNat k.bits))))
 | .shr => some (.int k (x.fdiv (2 ^ (min y.toNat k.bits))))
 | _ => none
def strBin (op : BinOp) (x y : List UInt8) : Option V :=
 match op with
 | .add => if x.length + y.length <= 1000000000 then some (.str (x ++ y)) else none
 | .eql => some (.bool (strEq x y))
 | .neq => some (.bool (!strEq x y))
 | .lss => some (.bool (strLt x y))
 | .leq => some (.bool (strLt x y || strEq x y))
 | .gtr => some (.bool (!(strLt x y || strEq x y)))
 | .geq => some (.bool (!strLt x y))
 | _ => none
def partV (cx : Cx) (t : Nat) (cs : List V) (off : Nat) : Option V :=
 match cx.desc t with
 | none => none
 | some d =>
  if aggD d then match cx.size t with
   | some k => (cut cs off k).map .agg
   | none => none
  else nth cs off
mutual
def eqV (cx : Cx) : Nat -> Nat -> V -> V -> Option Bool
 | 0, _, _, _ => none
 | f + 1, t, x, y =>
  match cx.desc t, x, y with
  | some .bool, .bool a, .bool b => some (a == b)
  | some (.int _), .int k a, .int k' b => if k = k' then some (a == b) else none
  | some .string, .str a, .str b => some (strEq a b)
  | some (.interface _), .nilIface, .iface _ _ => some false
  | some (.interface _), .iface _ _, .nilIface => some false
  | some (.interface _), .iface tx vx, .iface ty vy =>
   if tx ≠ ty then some false
   else match cx.ty tx with
    | some i => if i.comparable then eqV cx f tx vx vy else none
    | none => none
  | some (.struct fields), .agg xs, .agg ys => if cx.eqOk t then eqFs cx f fields.toList xs ys else none
  | _, _, _ => none
def eqFs (cx : Cx) : Nat -> List Field -> List V -> List V -> Option Bool
 | _, [], _, _ => some true
 | 0, _ :: _, _, _ => none
 | f + 1, d :: ds, xs, ys =>
  if d.name = "_" then none else
  match partV cx d.type xs d.offset, partV cx d.type ys d.offset with
  | some a, some b => match eqV cx f d.type a b with
   | some true => eqFs cx f ds xs ys
   | r => r
  | _, _ => none
end
def eqM (cx : Cx) (t : Nat) (x y : V) : M H Bool :=
 match cx.desc t, x, y with
 | some (.pointer _), .ptr none, .ptr b => ret b.isNone
 | some (.pointer _), .ptr (some _), .ptr none => ret false
 | some (.pointer e), .ptr (some (n, o)), .ptr (some (m, p)) =>
  match cx.size e with
  | some (_ + 1) =>
   if n = m then ret (o == p) else
   bnd (getM n) fun
    | .cells true true cs =>
     if o < cs.length then
      bnd (getM m) fun
       | .cells true true ds => if p < ds.length then ret false else fail "==: a pointer behind its block"
       | _ => fail "==: pointers"
     else fail "==: a pointer behind its block"
    | _ => fail "==: pointers"
  | _ => fail "==: pointers to nothing"
 | some (.slice _), .slice none _ _, .slice b _ _ => ret b.isNone
 | some (.slice _), .slice (some _) _ _, .slice none _ _ => ret false
 | some (.map _ _), .map none, .map b => ret b.isNone
 | some (.map _ _), .map (some _), .map none => ret false
 | some (.func _ _ _), .nilFunc, .nilFunc => ret true
 | some (.func _ _ _), .nilFunc, .func _ _ _ => ret false
 | some (.func _ _ _), .func _ _ _, .nilFunc => ret false
 | _, _, _ => lift "==: not asked here" (eqV cx 200 t x y)
def kW : Operand -> Bool
 | .const _ => true
 | _ => false
def binM (cx : Cx) (op : BinOp) (t : Nat) (cst : Bool) (x y : V) : M H V :=
 match op, x, y with
 | .shl, .int k a, .int _ b => lift "shift" (kB .shl k a b)
 | .shr, .int k a, .int _ b => lift "shift" (kB .shr k a b)
 | op, .int k a, .int k' b => if k = k' then lift "int" (intBin op k a b) else fail "kinds"
 | op, .str a, .str b => lift "str" (strBin op a b)
 | .eql, .nilIface, .nilIface => if cst then (match cx.desc t with | some (.interface _) => ret (.bool true) | _ => fail "==: nil") else fail "==: two nils"
 | .neq, .nilIface, .nilIface => if cst then (match cx.desc t with | some (.interface _) => ret (.bool false) | _ => fail "==: nil") else fail "==: two nils"
 | .eql, x, y => bnd (eqM cx t x y) fun b => ret (.bool b)
 | .neq, x, y => bnd (eqM cx t x y) fun b => ret (.bool (!b))
 | _, _, _ => fail "binop"
def unV (op : UnOp) : V -> Option V
 | .bool b => match op with
  | .not => some (.bool !b)
  | _ => none
 | .int k n => match op with
  | .neg => some (.int k (k.wrap (0 - n)))
  | .xor => some (.int k (k.wrap (BitVec.ofInt k.bits (if k.signed then -1 else k.max) ^^^ BitVec.ofInt k.bits n).toNat))
  | _ => none
 | _ => none
def fillV (place : Nat -> Option (Nat × Nat)) (cells : List V) : List (Nat × V) -> Option (List V)
 | [] => some cells
 | (i, v) :: rest =>
  match place i with
  | none => none
  | some (off, size) =>
   if (yR v).length = size /\ off + size <= cells.length then fillV place (yu cells off (yR v)) rest
   else none
def placesV (cx : Cx) : List Field -> Option (List (Nat × Nat))
 | [] => some []
 | f :: fs => match cx.size f.type, placesV cx fs with
  | some k, some r => some ((f.offset, k) :: r)
  | _, _ => none
def buildV (cx : Cx) (t : Nat) (parts : List (Nat × V)) : Option V :=
 match cx.zero t, cx.desc t with
 | some z, some (.struct fields) => match placesV cx fields.toList with
  | some ps => (fillV (fun i => nth ps i) (yR z) parts).map .agg
  | none => none
 | some z, some (.array _ e) => match cx.size e with
  | some k => (fillV (fun i => some (i * k, k)) (yR z) parts).map .agg
  | none => none
 | _, _ => none
def zlen (cx : Cx) (e : Nat) : Nat :=
 match cx.zero e with
 | some z => (yR z).length
 | none => 0
def jT (cx : Cx) (e n : Nat) : Option (List V) :=
 match cx.size e, cx.zero e with
 | some (k + 1), some z => if (yR z).length = k + 1 then some (reps n (yR z)) else none
 | _, _ => none
def buildSliceM (cx : Cx) (t len : Nat) (parts : List (Nat × V)) : M H V :=
 match cx.desc t with
 | some (.slice e) => match cx.size e, jT cx e len with
  | some k, some z =>
   if len * k <= 16777216 then
    bnd (lift "buildSlice" (fillV (fun i => some (i * k, k)) z parts)) fun cs =>
    bnd (newM (.cells true true cs)) fun n => ret (.slice (some (n, 0)) len (.known len))
   else fail "buildSlice: great"
  | _, _ => fail "buildSlice: size"
 | _ => fail "buildSlice: type"
def makeSliceM (cx : Cx) (t : Nat) (l c : V) : M H V :=
 match cx.desc t, l, c with
 | some (.slice e), .int _ l, .int _ c =>
  if 0 <= l /\ l <= c /\ c <= 1000000000 then
   match cx.ty e, jT cx e c.toNat with
   | some i, some z =>
    if i.bytes <= 4096 then
     bnd (newM (.cells true true z)) fun n => ret (.slice (some (n, 0)) l.toNat (.known c.toNat))
    else fail "make: bytes"
   | _, _ => fail "make: size"
  else fail "make: bounds"
 | _, _, _ => fail "make: type"
def bound : Option V -> Nat -> Option Nat
 | none, d => some d
 | some (.int _ i), _ => if 0 <= i then some i.toNat else none
 | some _, _ => none
def sliceM (cx : Cx) (t : Nat) (x : V) (lo hi mx : Option V) : M H V :=
 match cx.desc t, x with
 | some .string, .str s =>
  match mx, bound lo 0, bound hi s.length with
  | none, some l, some h => if l <= h /\ h <= s.length then ret (.str ((s.drop l).take (h - l))) else fail "slice: bounds"
  | _, _, _ => fail "slice: bounds"
 | some (.slice e), .slice a len cap =>
  match cx.size e, bound lo 0, bound hi len with
  | some k, some l, some h =>
   if l <= h then
    match mx, a, cap with
    | none, none, _ => if h = 0 then ret (.slice none 0 (.known 0)) else fail "slice: nil"
    | none, some (n, o), .known c =>
     if h <= c then ret (.slice (some (n, if c = l then o else o + l * k)) (h - l) (.known (c - l))) else fail "slice: bounds"
    | none, some (n, o), .upTo s =>
     if s = k /\ 0 < k then
      if h <= len then ret (.slice (some (n, o + l * k)) (h - l) cap)
      else bnd (getM n) fun
       | .cells _ _ cs => if o + h * k <= cs.length then ret (.slice (some (n, o + l * k)) (h - l) cap) else fail "slice: into the spare"
       | _ => fail "slice: cells"
     else fail "slice: element"
    | some (.int _ m), none, _ => if hi.isSome = true /\ 0 <= m /\ h <= m.toNat /\ m.toNat = 0 then ret (.slice none 0 (.known 0)) else fail "slice: bounds of three"
    | some (.int _ m), some (n, o), c =>
     if hi.isSome = true /\ 0 <= m /\ h <= m.toNat /\ m.toNat <= (match c with | .known c => c | .upTo _ => len) then
      ret (.slice (some (n, if m.toNat = l then o else o + l * k)) (h - l) (.known (m.toNat - l)))
     else fail "slice: bounds of three"
    | _, _, _ => fail "slice: max"
   else fail "slice: bounds"
  | _, _, _ => fail "slice: bounds"
 | some (.array c e), .ptr (some (n, o)) =>
  match cx.size e, mx, bound lo 0, bound hi c with
  | some k, none, some l, some h =>
   if l <= h /\ h <= c then ret (.slice (some (n, if c = l then o else o + l * k)) (h - l) (.known (c - l))) else fail "slice: bounds"
  | _, _, _, _ => fail "slice: array"
 | _, _ => fail "slice: type"
def indexAddrM (cx : Cx) (t : Nat) (x i : V) : M H V :=
 match cx.desc t, x, i with
 | some (.slice e), .slice (some (n, o)) len _, .int _ i =>
  if 0 <= i /\ i < len then bnd (lift "index: size" (cx.size e)) fun k => ret (.ptr (some (n, o + i.toNat * k))) else fail "index: out of range"
 | some (.array len e), .ptr (some (n, o)), .int _ i =>
  if 0 <= i /\ i < len then bnd (lift "index: size" (cx.size e)) fun k => ret (.ptr (some (n, o + i.toNat * k))) else fail "index: out of range"
 | _, _, _ => fail "indexAddr"
def indexV (cx : Cx) (t : Nat) (x i : V) : Option V :=
 match cx.desc t, x, i with
 | some (.array len e), .agg cs, .int _ i =>
  if 0 <= i /\ i < len then match cx.size e with
   | some k => partV cx e cs (i.toNat * k)
   | none => none
  else none
 | some .string, .str s, .int _ i =>
  if 0 <= i then match nth s i.toNat with
   | some b => some (.int .u8 b.toNat)
   | none => none
  else none
 | _, _, _ => none
def fieldAddrV (cx : Cx) (s : Nat) (x : V) (f : Nat) : Option V :=
 match cx.desc s, x with
 | some (.struct fields), .ptr (some (n, o)) => match nth fields.toList f with
  | some d => match cx.size d.type with
   | some (_ + 1) => some (.ptr (some (n, o + d.offset)))
   | _ => none
  | none => none
 | _, _ => none
def fieldV (cx : Cx) (s : Nat) (x : V) (f : Nat) : Option V :=
 match cx.desc s, x with
 | some (.struct fields), .agg cs => match nth fields.toList f with
  | some d => partV cx d.type cs d.offset
  | none => none
 | _, _ => none
def keyEq : V -> V -> Option Bool
 | .int k a, .int k' b => if k = k' then some (a == b) else none
 | .str a, .str b => some (strEq a b)
 | .bool a, .bool b => some (a == b)
 | _, _ => none
def qY (d : TypeDesc) (k : V) : Bool :=
 match d, k with
 | .int _, .int _ _ => true
 | .string, .str _ => true
 | .bool, .bool _ => true
 | _, _ => false
def kA (k : V) : List (V × V × Nat) -> Option (Option (Nat × V × Nat))
 | [] => some none
 | (q, v, b) :: es =>
  match keyEq k q with
  | some true => some (some (0, v, b))
  | some false => match kA k es with
   | some (some (i, x)) => some (some (i + 1, x))
   | r => r
  | none => none
def hasN (n : Nat) : List Nat -> Bool
 | [] => false
 | m :: l => Nat.beq n m || hasN n l
def leftV : List (V × V × Nat) -> List Nat -> List (V × V × Nat)
 | [], _ => []
 | (k, v, b) :: es, seen => bif hasN b seen then leftV es seen else (k, v, b) :: leftV es seen
def lastNat : List Nat -> Option Nat
 | [] => none
 | [b] => some b
 | _ :: l => lastNat l
def findB (b : Nat) : List (V × V × Nat) -> Option (V × V)
 | [] => none
 | (k, v, c) :: es => bif Nat.beq c b then some (k, v) else findB b es
def lookupM (cx : Cx) (t : Nat) (x i : V) (ok : Bool) : M H V :=
 match cx.desc t with
 | some (.map kt et) => match cx.desc kt with
  | some kd =>
   if qY kd i then
    bnd (match x with
     | .map none => ret (some none)
     | .map (some n) => bnd (getM n) fun
      | .map _ es _ => ret (kA i es)
      | _ => fail "lookup: map expected"
     | _ => fail "lookup: map expected") fun
    | none => fail "lookup: key"
    | some (some (_, v, _)) => ret (if ok then .tuple [v, .bool true] else v)
    | some none => bnd (lift "lookup: zero" (cx.zero et)) fun z => ret (if ok then .tuple [z, .bool false] else z)
   else fail "lookup: key's kind"
  | none => fail "lookup: key's type"
 | _ => fail "lookup: type"
def setNth {α : Type} : List α -> Nat -> α -> List α
 | [], _, _ => []
 | _ :: l, 0, x => x :: l
 | y :: l, n + 1, x => y :: setNth l n x
def delNth {α : Type} : List α -> Nat -> List α
 | [], _ => []
 | _ :: l, 0 => l
 | y :: l, n + 1 => y :: delNth l n
def mapUpdateM (cx : Cx) (t : Nat) (m k x : V) : M H V :=
 match cx.desc t, m with
 | some (.map kt _), .map (some n) => match cx.desc kt with
  | some kd =>
   if qY kd k then
    bnd (getM n) fun
     | .map true es ck => match kA k es with
      | none => fail "map update: key"
      | some (some (i, _, b)) => bnd (setM n (.map true (setNth es i (k, x, b)) ck)) fun _ => ret (.tuple [])
      | some none => bnd (setM n (.map true (es ++ [(k, x, ck)]) (ck + 1))) fun _ => ret (.tuple [])
     | _ => fail "map update: map expected"
   else fail "map update: key's kind"
  | none => fail "map update: key's type"
 | _, _ => fail "map update"
def mapEntryM (cx : Cx) (t : Nat) (m k : V) : M H V :=
 match cx.desc t, m with
 | some (.map kt et), .map (some n) => match cx.desc kt with
  | some kd =>
   if qY kd k then
    bnd (getM n) fun
     | .map true es ck => match kA k es with
      | none => fail "map entry: key"
      | some (some (i, v, b)) => bnd (setM n (.map true (setNth es i (k, v, b)) ck)) fun _ => ret (.tuple [v, .int .i64 b])
      | some none => bnd (lift "map entry: zero" (cx.zero et)) fun z =>
       bnd (setM n (.map true (es ++ [(k, z, ck)]) (ck + 1))) fun _ => ret (.tuple [z, .int .i64 ck])
     | _ => fail "map entry: map expected"
   else fail "map entry: key's kind"
  | none => fail "map entry: key's type"
 | _, _ => fail "map entry"
def stampV (b : Int) (x : V) : List (V × V × Nat) -> Option (List (V × V × Nat))
 | [] => none
 | (k, v, c) :: es => if (c : Int) == b then some ((k, x, c) :: es) else match stampV b x es with
  | some l => some ((k, v, c) :: l)
  | none => none
def entryStoreM (m s x : V) : M H V :=
 match m, s with
 | .map (some n), .int _ b => bnd (getM n) fun
  | .map true es ck => bnd (lift "entry store: gone" (stampV b x es)) fun es => bnd (setM n (.map true es ck)) fun _ => ret (.tuple [])
  | _ => fail "entry store: map expected"
 | _, _ => fail "entry store"
def deleteM (cx : Cx) (t : Nat) (m k : V) : M H V :=
 match cx.desc t with
 | some (.map kt _) => match cx.desc kt with
  | some kd =>
   if qY kd k then
    match m with
    | .map none => ret (.tuple [])
    | .map (some n) => bnd (getM n) fun
     | .map true es ck => match kA k es with
      | none => fail "delete: key"
      | some (some (i, _)) => bnd (setM n (.map true (delNth es i) ck)) fun _ => ret (.tuple [])
      | some none => bnd (setM n (.map true es ck)) fun _ => ret (.tuple [])
     | _ => fail "delete: map expected"
    | _ => fail "delete: map expected"
   else fail "delete: key's kind"
  | none => fail "delete: key's type"
 | _ => fail "delete: type"
def lenM (cx : Cx) (t : Nat) (x : V) : M H V :=
 match cx.desc t, x with
 | some .string, .str s => ret (.int .i64 s.length)
 | some (.array n _), _ => ret (.int .i64 n)
 | some (.slice _), .slice _ n _ => ret (.int .i64 n)
 | some (.map _ _), .map none => ret (.int .i64 0)
 | some (.map _ _), .map (some n) => bnd (getM n) fun
  | .map _ es _ => ret (.int .i64 es.length)
  | _ => fail "len: map expected"
 | _, _ => fail "len"
def u8s (s : List UInt8) : List V := s.map fun b => .int .u8 b.toNat
def firstM (k n : Nat) : V -> M H (List V)
 | .slice (some (m, o)) len _ => if n = 0 then ret [] else if n <= len then loadC m o (n * k) else fail "first: fewer"
 | .slice none _ _ => if n = 0 then ret [] else fail "first: nil"
 | .str s => if n <= s.length then ret (u8s (s.take n)) else fail "first: string"
 | _ => fail "first"
def appendedM (cx : Cx) (e k : Nat) (xt : Option Nat) (x : V) : M H (Nat × List V) :=
 match (match xt with | some t => cx.desc t | none => some .invalid) with
 | some (.int _) => match x with
  | .int _ l => if 0 <= l /\ l <= 1000000000 then bnd (lift "append: zero" (jT cx e l.toNat)) fun z => ret (l.toNat, z) else fail "append: make"
  | _ => fail "append: make"
 | some _ => match x with
  | .slice _ n _ => bnd (firstM k n x) fun cs => ret (n, cs)
  | .str s => if k = 1 then ret (s.length, u8s s) else fail "append: string"
  | _ => fail "append: what"
 | none => fail "append: type"
def growM (k : Nat) (cs new : List V) (need : Nat) : M H V :=
 bnd (newM (.cells true true (cs ++ new))) fun n => ret (.slice (some (n, 0)) need (.upTo k))
def appendM (cx : Cx) (ts : List Nat) (xs : List V) : M H V :=
 match ts, xs with
 | st :: xt, s :: x :: _ => match cx.desc st, s with
  | some (.slice e), .slice a len cap => match cx.ty e, cx.size e with
   | some i, some (k' + 1) =>
    bnd (appendedM cx e (k' + 1) xt.head? x) fun (n, new) =>
    if new.length = n * (k' + 1) /\ len + n <= 1000000000 /\ i.bytes <= 4096 /\ zlen cx e = k' + 1 then
     match a, cap with
     | none, _ => if len = 0 then (if n = 0 then ret s else growM (k' + 1) [] new n) else fail "append: nil"
     | some (m, o), .known c =>
      if len + n <= c then
       (if n = 0 then ret s else bnd (storeC m (o + len * (k' + 1)) new) fun _ => ret (.slice a (len + n) cap))
      else bnd (firstM (k' + 1) len s) fun old => growM (k' + 1) old new (len + n)
     | some (m, o), .upTo sz =>
      if n = 0 then ret s else if sz ≠ k' + 1 then fail "append: element" else
      bnd (getM m) fun
       | .cells true cl cs =>
        if o + (len + n) * (k' + 1) <= cs.length then
         (if new.all jR then bnd (setM m (.cells true cl (yu cs (o + len * (k' + 1)) new))) fun _ => ret (.slice a (len + n) cap) else fail "append: cells")
        else match cut cs o (len * (k' + 1)) with
         | some old => bnd (setM m .dead) fun _ =>
          if (old ++ new).all jR then bnd (newM (.cells true (Nat.beq o 0 && cl) (old ++ new))) fun r => ret (.slice (some (r, 0)) (len + n) cap) else fail "append: cells"
         | none => fail "append: its own cells"
       | _ => fail "append: not cells of its own"
    else fail "append: sizes"
   | _, _ => fail "append: element"
  | _, _ => fail "append: slice"
 | _, _ => fail "append: arguments"
def copyM (cx : Cx) (t : Nat) (d s : V) : M H V :=
 match cx.desc t, d with
 | some (.slice e), .slice a dl _ => match cx.size e with
  | some k =>
   bnd (match s with | .slice _ n _ => ret n | .str b => if k = 1 then ret b.length else fail "copy: string" | _ => fail "copy: source") fun sl =>
   bnd (firstM k (min sl dl) s) fun cs =>
   match a with
   | none => ret (.int .i64 0)
   | some (n, o) => if min sl dl = 0 then ret (.int .i64 0) else bnd (storeC n o cs) fun _ => ret (.int .i64 (min sl dl : Nat))
  | none => fail "copy: size"
 | _, _ => fail "copy"
def clearM (cx : Cx) (t : Nat) (x : V) : M H V :=
 match cx.desc t, x with
 | some (.slice e), .slice a n _ =>
  match a with
  | none => ret (.tuple [])
  | some (m, o) => if n = 0 then ret (.tuple []) else
   bnd (lift "clear: zero" (jT cx e n)) fun z => if z.all jR = true then bnd (storeC m o z) fun _ => ret (.tuple []) else fail "clear: cells"
 | _, _ => fail "clear"
def capM (cx : Cx) (t : Nat) (x : V) : M H V :=
 match cx.desc t, x with
 | some (.slice _), .slice _ _ (.known k) => ret (.int .i64 k)
 | _, _ => fail "cap"
def minI (k : IntKind) : Int -> List V -> Option V
 | x, [] => some (.int k x)
 | x, .int k' y :: r => if k = k' then minI k (if y < x then y else x) r else none
 | _, _ :: _ => none
def minV : List V -> Option V
 | .int k x :: r => minI k x r
 | _ => none
def maxI (k : IntKind) : Int -> List V -> Option V
 | x, [] => some (.int k x)
 | x, .int k' y :: r => if k = k' then maxI k (if y > x then y else x) r else none
 | _, _ :: _ => none
def maxV : List V -> Option V
 | .int k x :: r => maxI k x r
 | _ => none
def builtinM (cx : Cx) (b : Builtin) (ts : List Nat) (xs : List V) : M H V :=
 match b, ts, xs with
 | .append, ts, xs => appendM cx ts xs
 | .len, t :: _, x :: _ => lenM cx t x
 | .copy, t :: _, d :: s :: _ => copyM cx t d s
 | .delete, t :: _, m :: k :: _ => deleteM cx t m k
 | .clear, t :: _, x :: _ => clearM cx t x
 | .cap, t :: _, x :: _ => capM cx t x
 | .min, _, xs => lift "min" (minV xs)
 | .max, _, xs => lift "max" (maxV xs)
 | _, _, _ => fail "builtin"
def bytesOfV : List V -> Option (List UInt8)
 | [] => some []
 | .int .u8 n :: r => if 0 <= n /\ n < 256 then match bytesOfV r with
   | some l => some (UInt8.ofNat n.toNat :: l)
   | none => none
  else none
 | _ :: _ => none
def runesL (s : ByteArray) : Nat -> Nat -> List Int
 | 0, _ => []
 | b + 1, i => if i < s.size then Int.ofNat (Utf8.decode s i).1 :: runesL s b (i + (Utf8.decode s i).2) else []
def i32s (l : List Int) : List V := l.map fun z => .int .i32 z
def convertM (cx : Cx) (src dst : Nat) (x : V) : M H V :=
 match cx.desc src, cx.desc dst, x with
 | some (.int _), some (.int k), .int _ n => ret (.int k (k.wrap n))
 | some .string, some .string, .str s => ret (.str s)
 | some .string, some (.slice e), .str s => match cx.desc e with
  | some (.int .u8) =>
   if s.length <= 1000000000 then
   bnd (newM (.cells true false (u8s s))) fun n => ret (.slice (some (n, 0)) s.length (.upTo 1))
   else fail "convert: great"
  | some (.int .i32) =>
   bnd (newM (.cells true true (i32s (runesL ⟨⟨s⟩⟩ s.length 0)))) fun n => ret (.slice (some (n, 0)) (runesL ⟨⟨s⟩⟩ s.length 0).length (.upTo 1))
  | _ => fail "convert: to a slice of what"
 | some (.slice e), some .string, .slice a len _ => match cx.desc e with
  | some (.int .u8) => match a with
   | none => ret (.str [])
   | some (n, o) => if len = 0 then ret (.str []) else bnd (loadC n o len) fun cs => bnd (lift "convert: bytes" (bytesOfV cs)) fun s => ret (.str s)
  | _ => fail "convert: of a slice of what"
 | _, _, _ => fail "convert"
def assertM (cx : Cx) (x : V) (want : Nat) (ok : Bool) : M H V :=
 match cx.desc want, x with
 | some (.interface _), _ => fail "assert: to an interface"
 | some _, .iface t v =>
  if t = want then ret (if ok then .tuple [v, .bool true] else v)
  else if ok then bnd (lift "assert: zero" (cx.zero want)) fun z => ret (.tuple [z, .bool false]) else fail "assert: fails"
 | some _, .nilIface => if ok then bnd (lift "assert: zero" (cx.zero want)) fun z => ret (.tuple [z, .bool false]) else fail "assert: nil"
 | _, _ => fail "assert"
def methodV (cx : Cx) (t : Nat) (name : String) : Option Nat :=
 match cx.ty t with
 | some i => match i.methods.toList.find? (fun m => m.name == name) with
  | some m => match m.path.toList, m.func, cx.desc t with
   | [], some (f, true), some (.pointer _) => some f
   | _, _, _ => none
  | none => none
 | none => none
def undefV : V := .tuple []
end
section
variable {H E : Type} [MapI H AObj] [MapI E V]
def ev1 (cx : Cx) (e : E) : Operand -> Option V
 | .tmp t => MapI.get e t
 | .const v => toV v
 | .global g => if g < cx.ng then some (.ptr (some (g, 0))) else none
 | .func f => some (.func (.func f) [] [])
def evs (cx : Cx) (e : E) : List Operand -> Option (List V)
 | [] => some []
 | x :: l => match ev1 cx e x with
  | none => none
  | some v => match evs cx e l with
   | none => none
   | some vs => some (v :: vs)
def qQ (cx : Cx) (e : E) : List (Nat × Operand) -> Option (List (Nat × V))
 | [] => some []
 | (i, x) :: l => match ev1 cx e x with
  | none => none
  | some v => match qQ cx e l with
   | none => none
   | some vs => some ((i, v) :: vs)
def evO (cx : Cx) (e : E) : Option Operand -> Option (Option V)
 | none => some none
 | some x => match ev1 cx e x with
  | some v => some (some v)
  | none => none
def callM (cx : Cx) (call : Tgt -> List V -> M H V) (e : E) (c : Call) : M H V :=
 bnd (lift "call: arguments" (evs cx e c.args.toList)) fun xs =>
 match c.callee with
 | .builtin b => builtinM cx b c.argTypes.toList xs
 | .value f => bnd (lift "call: function" (ev1 cx e f)) fun
  | .func (.func f) first captured => call (.fn f) (first ++ xs ++ captured)
  | .yld n => call (.yl n) xs
  | _ => fail "call: what"
 | .invoke r name => bnd (lift "call: receiver" (ev1 cx e r)) fun
  | .iface t v => bnd (lift "call: method" (methodV cx t name)) fun f => call (.fn f) (v :: xs)
  | _ => fail "call: on what"
def opM (cx : Cx) (call : Tgt -> List V -> M H V) (e : E) (o : Oper) : M H V :=
 let v1 (x : Operand) (k : V -> M H V) : M H V := bnd (lift "operand" (ev1 cx e x)) k
 match o.op with
 | .move x | .assign x => lift "operand" (ev1 cx e x)
 | .pick c a b => v1 c fun
  | .bool true => lift "operand" (ev1 cx e a)
  | .bool false => lift "operand" (ev1 cx e b)
  | _ => fail "pick"
 | .alloc t => bnd (lift "alloc" (cx.zero t)) fun z => bnd (newM (.cells true true (yR z))) fun n => ret (.ptr (some (n, 0)))
 | .box _ x => v1 x fun v => bnd (newM (.cells true true (yR v))) fun n => ret (.ptr (some (n, 0)))
 | .build t ps => bnd (lift "operand" (qQ cx e ps.toList)) fun ps => lift "build" (buildV cx t ps)
 | .buildSlice t len ps => bnd (lift "operand" (qQ cx e ps.toList)) fun ps => buildSliceM cx t len ps
 | .load t x => v1 x fun a => bnd (asP a) fun (n, o) => loadT cx t n o
 | .store t x y => v1 x fun a => v1 y fun v => bnd (asP a) fun (n, o) => bnd (storeT cx t n o v) fun _ => ret (.tuple [])
 | .nilCheck x => v1 x fun
  | .ptr (some a) => ret (.ptr (some a))
  | .func (.func f) a b => ret (.func (.func f) a b)
  | .yld n => ret (.yld n)
  | .iface t v => ret (.iface t v)
  | _ => fail "nilCheck"
 | .binOp op t x y _ => v1 x fun a => v1 y fun b => binM cx op t (kW x || kW y) a b
 | .unOp op _ x => v1 x fun a => lift "unop" (unV op a)
 | .convert s d x => v1 x fun a => convertM cx s d a
 | .makeInterface t x => v1 x fun a => match cx.desc t with
  | some (.interface _) => fail "makeInterface"
  | some _ => ret (.iface t a)
  | none => fail "makeInterface"
 | .makeFunc (.func f) first captured =>
  bnd (lift "operand" (evs cx e first.toList)) fun a => bnd (lift "operand" (evs cx e captured.toList)) fun b => ret (.func (.func f) a b)
 | .makeMap t r =>
  bnd (match r with
   | none => ret ()
   | some x => v1 x (fun
    | .int _ _ => match cx.desc t with
     | some (.map _ _) => ret .nilFunc
     | _ => fail "makeMap"
    | _ => fail "makeMap") |> fun m => bnd m fun _ => ret ()) fun _ =>
  bnd (newM (.map true [] 0)) fun n => ret (.map (some n))
 | .makeSlice t l c => v1 l fun a => v1 c fun b => makeSliceM cx t a b
 | .slice t x lo hi mx => v1 x fun a =>
  bnd (lift "operand" (evO cx e lo)) fun lo => bnd (lift "operand" (evO cx e hi)) fun hi => bnd (lift "operand" (evO cx e mx)) fun mx => sliceM cx t a lo hi mx
 | .fieldAddr s x f => v1 x fun a => lift "fieldAddr" (fieldAddrV cx s a f)
 | .field s x f => v1 x fun a => lift "field" (fieldV cx s a f)
 | .indexAddr t x i => v1 x fun a => v1 i fun b => indexAddrM cx t a b
 | .index t x i => v1 x fun a => v1 i fun b => lift "index" (indexV cx t a b)
 | .lookup t x i ok => v1 x fun a => v1 i fun b => lookupM cx t a b ok
 | .mapUpdate t m k x | .insert t m k x => v1 m fun a => v1 k fun b => v1 x fun c => mapUpdateM cx t a b c
 | .mapEntry t m k => v1 m fun a => v1 k fun b => mapEntryM cx t a b
 | .entryStore _ m s x => v1 m fun a => v1 s fun b => v1 x fun c => entryStoreM a b c
 | .range t x => v1 x fun
  | .str s => match cx.desc t with
   | some .string => bnd (newM (.siter s 0)) fun n => ret (.ptr (some (n, 0)))
   | _ => fail "range"
  | .map none => match cx.desc t with
   | some (.map _ _) => bnd (newM (.miter none 0 [] 0)) fun n => ret (.ptr (some (n, 0)))
   | _ => fail "range"
  | .map (some q) => match cx.desc t with
   | some (.map _ _) => bnd (getM q) fun
    | .map _ _ ck => bnd (newM (.miter (some q) ck [] ck)) fun n => ret (.ptr (some (n, 0)))
    | _ => fail "range: map expected"
   | _ => fail "range"
  | _ => fail "range"
 | .next x false => v1 x fun
  | .ptr (some (n, 0)) => bnd (getM n) fun
   | .miter none _ _ _ => ret (.tuple [.bool false])
   | .miter (some q) since seen last => bnd (getM q) fun
    | .map _ es ck =>
     if (es.all fun x => Nat.blt x.2.2 since) = true /\ since <= last then
      match leftV es seen with
      | [] => ret (.tuple [.bool false])
      | [(k, v, b)] => bnd (setM n (.miter (some q) since (seen ++ [b]) ck)) fun _ => ret (.tuple [.bool true, k, v])
      | _ :: _ :: _ => fail "next: which entry"
     else fail "next: new entries"
    | _ => fail "next: map expected"
   | _ => fail "next: iterator"
  | _ => fail "next"
 | .entry x => v1 x fun
  | .ptr (some (n, 0)) => bnd (getM n) fun
   | .miter (some q) since seen last => bnd (getM q) fun
    | .map _ es ck =>
     if ck = last then
      match lastNat seen with
      | some b => match findB b es with
       | some (k, v) => ret (.tuple [k, v])
       | none => fail "entry: gone"
      | none => fail "entry: no step yet"
     else fail "entry: an insertion"
    | _ => fail "entry: map expected"
   | _ => fail "entry: iterator"
  | _ => fail "entry"
 | .next x true => v1 x fun
  | .ptr (some (n, 0)) => bnd (getM n) fun
   | .siter s pos =>
    if pos < s.length then
     match Utf8.decode ⟨⟨s⟩⟩ pos with
     | (c, width) => bnd (setM n (.siter s (pos + width))) fun _ => ret (.tuple [.bool true, .int .i64 pos, .int .i32 c])
    else ret (.tuple [.bool false])
   | _ => fail "next: iterator"
  | _ => fail "next"
 | .typeAssert x _ t ok => v1 x fun a => assertM cx a t ok
 | .extract x i => v1 x fun
  | .tuple vs => lift "extract" (nth vs i)
  | _ => fail "extract"
 | .call c => callM cx call e c
 | _ => fail "operation"
def dstOf (ops : List Oper) (j : Nat) : Option Tmp :=
 match nth ops j with
 | some o => o.dst
 | none => none
def qx (ops : List Oper) (e : E) (o : Oper) : Option Bool :=
 match o.guard with
 | none => some true
 | some (j, want) => match dstOf ops j with
  | none => some false
  | some d => match MapI.get e d with
   | none => none
   | some (.bool b) => some (b == want)
   | some _ => some false
def putE (N : Nat) (e : E) (d : Option Tmp) (v : V) : M H E :=
 match d with
 | none => ret e
 | some d => if d < N then ret (MapI.set e d v) else fail "put"
def stepOp (cx : Cx) (call : Tgt -> List V -> M H V) (N : Nat) (ops : List Oper) (o : Oper) (e : E) : M H E :=
 match qx ops e o with
 | some true => bnd (opM cx call e o) fun v => putE N e o.dst v
 | some false => putE N e o.dst undefV
 | none => fail "guard"
def evOps (cx : Cx) (call : Tgt -> List V -> M H V) (N : Nat) (ops : List Oper) : List Oper -> E -> M H E
 | [], e => ret e
 | o :: l, e => bnd (stepOp cx call N ops o e) fun e => evOps cx call N ops l e
def evLog (cx : Cx) (call : Tgt -> List V -> M H V) (N : Nat) (ops : List Oper) : List Oper -> E -> M H (E × List (List Acc))
 | [], e => ret (e, [])
 | o :: l, e => bnd (listen (stepOp cx call N ops o e)) fun (e, a) => bnd (evLog cx call N ops l e) fun (e, zR) => ret (e, a :: zR)
def depsOf (acc : List Nat) (o : Oper) : Nat :=
 o.after.toList.foldl (fun s x => if Region.binds .any x then s ||| 2 ^ x.on ||| (nth acc x.on).getD 0 else s) 0
def j3 : List Oper -> List Nat -> List Nat
 | [], acc => acc
 | o :: l, acc => j3 l (acc ++ [depsOf acc o])
def hitsOne (n : Nat) (w : Bool) : List Acc -> Bool
 | [] => false
 | a :: l => (Nat.beq a.name n && (w || a.writes)) || hitsOne n w l
def meet : List Acc -> List Acc -> Bool
 | [], _ => false
 | a :: l, m => hitsOne a.name a.writes m || meet l m
def gL (i : Nat) (a : List Acc) : List (Nat × List Acc) -> Bool
 | [] => true
 | (deps, b) :: l => (deps.testBit i || !meet a b) && gL i a l
def kE : Nat -> List (Nat × List Acc) -> Bool
 | _, [] => true
 | i, (_, a) :: l => (match a with | [] => true | _ => gL i a l) && kE (i + 1) l
def jX : List (List Acc) -> Bool
 | [] => false
 | a :: l => a.any Acc.writes || jX l
def kr (ops : List Oper) (logs : List (List Acc)) : Bool :=
 !jX logs || kE 0 ((j3 ops []).zip logs)
def evDrawn (cx : Cx) (call : Tgt -> List V -> M H V) (N : Nat) (ops : List Oper) (e : E) : M H E :=
 bnd (evLog cx call N ops ops e) fun (e, logs) => if kr ops logs then ret e else fail "a region's operations meet"
abbrev Out (E : Type) : Type := Ex × E × List Nat
def loopM (body : List Nat -> E -> M H (Out E)) : Nat -> List Nat -> E -> M H (Out E)
 | 0, _, _ => fail "loop: fuel"
 | n + 1, ms, e => bnd (body ms e) fun
  | (.normal, e, ms) => loopM body n ms e
  | r => Ab.ret r
def known (e : E) : Nat -> List (Nat × V)
 | 0 => []
 | n + 1 => match MapI.get e n with
  | some v => (n, v) :: known e n
  | none => known e n
def bodied (cx : Cx) (f : Nat) : Bool :=
 match cx.fn f with
 | some fn => fn.body.isSome
 | none => false
def evCode (cx : Cx) (call : Tgt -> List V -> M H V) (rd : Bool) (N : Nat) (n : Nat) : Code -> List Nat -> E -> M H (Out E)
 | .skip, ms, e => Ab.ret (.normal, e, ms)
 | .region _ ops draw, ms, e =>
  bnd (if draw then evDrawn cx call N ops.toList e else evOps cx call N ops.toList ops.toList e) fun e => Ab.ret (.normal, e, ms)
 | .seq a b, ms, e => bnd (evCode cx call rd N n a ms e) fun
  | (.normal, e, ms) => evCode cx call rd N n b ms e
  | r => Ab.ret r
 | .cond c a b, ms, e => bnd (lift "cond" (ev1 cx e c)) fun
  | .bool true => evCode cx call rd N n a ms e
  | .bool false => evCode cx call rd N n b ms e
  | _ => fail "cond"
 | .block id b, ms, e => bnd (evCode cx call rd N n b ms e) fun
  | (.exit i, e, ms) => if i = id then Ab.ret (.normal, e, ms) else Ab.ret (.exit i, e, ms)
  | r => Ab.ret r
 | .loop b, ms, e => loopM (evCode cx call rd N n b) n ms e
 | .exit id, ms, e => Ab.ret (.exit id, e, ms)
 | .label _, ms, e => Ab.ret (.normal, e, ms)
 | .ret, ms, e => Ab.ret (.ret, e, ms)
 | .refuse w, _, _ => fail ("refused: " ++ w)
 | .scope _, _, _ => fail "scope"
 | .goto _, _, _ => fail "goto"
 | .rangeFunc g ps assign body, ms, e =>
  if rd then fail "a loop over a function within a round" else
  bnd (lift "range: function" (ev1 cx e g)) fun
   | .func (.func gf) [] captured =>
    if bodied cx gf then
    bnd (newM .defs) fun d =>
    bnd (newM (.loop .ready d N (known e N) ps.toList assign body)) fun l =>
    bnd (call (.fn gf) (.yld l :: captured)) fun _ =>
    bnd (getM l) fun
     | .loop .ready d' N' es' ps' as' bo' => bnd (setM l (.loop .over d' N' es' ps' as' bo')) fun _ => Ab.ret (.normal, e, d :: ms)
     | .loop (.done j) d' N' es' ps' as' bo' => bnd (setM l (.loop .over d' N' es' ps' as' bo')) fun _ => Ab.ret (j, e, d :: ms)
     | _ => fail "range: the loop"
    else fail "range: over a function without a body"
   | _ => fail "range: over what"
def initE : List V -> Nat -> E -> E
 | [], _, e => e
 | v :: l, i, e => initE l (i + 1) (MapI.set e i v)
def initL : List (Nat × V) -> E -> E
 | [], e => e
 | (t, v) :: l, e => initL l (MapI.set e t v)
def resM (cx : Cx) (e : E) : List ResultVar -> M H (List V)
 | [] => Ab.ret []
 | .tmp t :: l => bnd (lift "result" (MapI.get e t)) fun v => bnd (resM cx e l) fun vs => Ab.ret (v :: vs)
 | .cell a t :: l => bnd (lift "result" (MapI.get e a)) fun x => bnd (asP x) fun (n, o) =>
  bnd (loadT cx t n o) fun v => bnd (resM cx e l) fun vs => Ab.ret (v :: vs)
def tup : List V -> V
 | [v] => v
 | vs => .tuple vs
def spendM : List Nat -> M H Unit
 | [] => Ab.ret ()
 | d :: ms => bnd (getM d) fun
  | .defs => bnd (setM d .spent) fun _ => spendM ms
  | _ => fail "a mark"
def bodyM (E : Type) [MapI E V] (cx : Cx) (call : Tgt -> List V -> M H V) (n : Nat) (f : Nat) (xs : List V) : M H V :=
 match cx.fn f with
 | none => fail "no such function"
 | some fn => match fn.body with
  | none => fail ("no body: " ++ fn.name)
  | some c =>
   if xs.length <= fn.ntmps then
    bnd (evCode cx call false fn.ntmps n c [] (initE xs 0 (MapI.emp : E))) fun
     | (.exit _, _, _) => fail "exit"
     | (_, e, ms) => bnd (spendM ms) fun _ => bnd (resM cx e fn.results.toList) fun vs => Ab.ret (tup vs)
   else fail "arguments"
def roundM (E : Type) [MapI E V] (cx : Cx) (call : Tgt -> List V -> M H V) (n : Nat) (l : Nat) (xs : List V) : M H V :=
 bnd (getM l) fun
  | .loop .ready _ N es ps assign body =>
   if xs.length = ps.length /\ (ps.all fun t => Nat.blt t N) = true then
    bnd (evCode cx call true N n assign [] (initL (ps.zip xs) (initL es (MapI.emp : E)))) fun
     | (.normal, e, ms) => bnd (getM l) fun
      | .loop .ready d N' es' ps' as' bo' => bnd (setM l (.loop .busy d N' es' ps' as' bo')) fun _ =>
       bnd (evCode cx call true N n body ms e) fun (x, _, _) => bnd (getM l) fun
        | .loop .busy d N' es' ps' as' bo' => match x with
         | .normal => bnd (setM l (.loop .ready d N' es' ps' as' bo')) fun _ => Ab.ret (.bool true)
         | j => bnd (setM l (.loop (.done j) d N' es' ps' as' bo')) fun _ => Ab.ret (.bool false)
        | _ => fail "round: its end"
      | _ => fail "round: its begin"
     | _ => fail "round: its parameters"
   else fail "round: arguments"
  | _ => fail "round"
def evFn (E : Type) [MapI E V] (cx : Cx) (prim : Nat -> Option ((Tgt -> List V -> M H V) -> List V -> M H V)) : Nat -> Tgt -> List V -> M H V
 | 0, _, _ => fail "fuel"
 | n + 1, .fn f, xs => match prim f with
  | some m => m (evFn E cx prim n) xs
  | none => bodyM E cx (evFn E cx prim n) n f xs
 | n + 1, .yl l, xs => roundM E cx (evFn E cx prim n) n l xs
end
def tmpsOf : List Operand -> List Nat
 | [] => []
 | .tmp t :: l => t :: tmpsOf l
 | _ :: l => tmpsOf l
def looks (ops : List Oper) (o : Oper) : List Nat :=
 match o.guard with
 | none => tmpsOf o.op.operands.toList
 | some (g, _) => match dstOf ops g with
  | some d => d :: tmpsOf o.op.operands.toList
  | none => tmpsOf o.op.operands.toList
def hasNat (n : Nat) : List Nat -> Bool
 | [] => false
 | m :: l => Nat.beq n m || hasNat n l
def dstIn (d : Option Nat) (l : List Nat) : Bool :=
 match d with
 | some d => hasNat d l
 | none => false
def sameDst : Option Nat -> Option Nat -> Bool
 | some a, some b => Nat.beq a b
 | _, _ => false
def freeOf (i : Nat) (d : Option Nat) (ls : List Nat) : List (Nat × Option Nat × List Nat) -> Bool
 | [] => true
 | (dep, d', ls') :: l => (dep.testBit i || (!dstIn d ls' && !dstIn d' ls && !sameDst d d')) && freeOf i d ls l
def allFree : Nat -> List (Nat × Option Nat × List Nat) -> Bool
 | _, [] => true
 | i, (_, d, ls) :: l => freeOf i d ls l && allFree (i + 1) l
def edgesOk : Nat -> List Oper -> Bool
 | _, [] => true
 | i, o :: l => o.after.toList.all (fun x => !Region.binds .any x || Nat.blt x.on i) && edgesOk (i + 1) l
def regOk (ops : List Oper) : Bool :=
 edgesOk 0 ops && allFree 0 ((j3 ops []).zip (ops.map fun o => (o.dst, looks ops o)))
def jg : Code -> Bool
 | .region _ ops draw => !draw || regOk ops.toList
 | .seq a b => jg a && jg b
 | .cond _ a b => jg a && jg b
 | .block _ b => jg b
 | .loop b => jg b
 | .rangeFunc _ _ a b => jg a && jg b
 | _ => true
abbrev FM (α : Type) : Type := Nat -> Option α
instance {α : Type} : MapI (FM α) α where
 emp := fun _ => none
 get s n := s n
 set s n x := fun m => bif Nat.beq m n then some x else s m
 get_emp _ := rfl
 get_same s n x := by show (bif Nat.beq n n then some x else s n) = some x; rw [Nat.beq_refl]; rfl
 get_ne s n m x h := by
  show (bif Nat.beq m n then some x else s m) = s m
  have : Nat.beq m n = false := by rw [Bool.eq_false_iff]; intro e; exact h (Nat.eq_of_beq_eq_true e).symm
  rw [this]; rfl
theorem FM.add {α : Type} {e : FM α} {k : Nat} {v : α} (h : e k = some v) : MapI.set e k v = e := by
 funext m
 show (bif Nat.beq m k then some v else e m) = e m
 cases hb : Nat.beq m k with
 | false => rfl
 | true => rw [Nat.eq_of_beq_eq_true hb, h]; rfl
section
variable {H : Type} {α β : Type}
def WpX (m : Nat -> M H α) (h : H) (c : Nat) (Q : α -> H -> Nat -> List Acc -> Prop) : Prop :=
 ∃ a h' c' l, Q a h' c' l /\ ∃ k, ∀ n, k <= n -> m n h c = .ok a h' c' l
theorem zT {m : Nat -> M H α} {h h' : H} {c c' : Nat} {l : List Acc} {a : α} {Q : α -> H -> Nat -> List Acc -> Prop} (hm : ∀ n, m n h c = .ok a h' c' l) (hQ : Q a h' c' l) : WpX m h c Q :=
 ⟨a, h', c', l, hQ, 0, fun n _ => hm n⟩
theorem WpX.mono {m : Nat -> M H α} {h : H} {c : Nat} {Q R : α -> H -> Nat -> List Acc -> Prop} (w : WpX m h c Q) (hq : ∀ a h' c' l, Q a h' c' l -> R a h' c' l) : WpX m h c R := by
 obtain ⟨a, h', c', l, q, k, hk⟩ := w
 exact ⟨a, h', c', l, hq _ _ _ _ q, k, hk⟩
theorem yr {m : M H α} {f : α -> M H β} {h h' h'' : H} {c c' c'' : Nat} {a : α} {b : β} {l l' : List Acc} (x : m h c = .ok a h' c' l) (y : f a h' c' = .ok b h'' c'' l') : Ab.bnd m f h c = .ok b h'' c'' (l ++ l') := by
 unfold Ab.bnd
 simp only [x, y]
theorem zV {L : Acc -> Prop} : ∀ x ∈ ([] : List Acc), L x := fun x hx => by cases hx
theorem WpX.bnd {m : Nat -> M H α} {f : α -> Nat -> M H β} {h : H} {c : Nat} {Q : β -> H -> Nat -> List Acc -> Prop}
  (w : WpX m h c fun a h' c' l => WpX (f a) h' c' fun b h'' c'' l' => Q b h'' c'' (l ++ l')) : WpX (fun n => bnd (m n) fun a => f a n) h c Q := by
 obtain ⟨a, h', c', l, ⟨b, h'', c'', l', q, k', hk'⟩, k, hk⟩ := w
 refine ⟨b, h'', c'', l ++ l', q, k + k', fun n hn => yr (hk n (by omega)) (hk' n (by omega))⟩
theorem WpX.congr {m m' : Nat -> M H α} {h : H} {c : Nat} {Q : α -> H -> Nat -> List Acc -> Prop} (w : WpX m' h c Q) (e : ∀ n, m n = m' n) : WpX m h c Q := by
 have : m = m' := funext e
 rw [this]; exact w
end
section
variable {H E : Type} [MapI H AObj] [MapI E V] {cx : Cx} {prim : Nat -> Option ((Tgt -> List V -> M H V) -> List V -> M H V)}
variable {h : H} {c : Nat} {L : Acc -> Prop}
structure WpC (E : Type) [MapI E V] (cx : Cx) (prim : Nat -> Option ((Tgt -> List V -> M H V) -> List V -> M H V)) (L : Acc -> Prop) (N : Nat) (cd : Code) (e : E) (h : H) (c : Nat) (Q : Ex -> E -> H -> Nat -> Prop) : Prop where
 w : WpX (fun n => evCode cx (evFn E cx prim n) false N n cd [] e) h c fun r h' c' l => (∀ x ∈ l, L x) /\ r.2.2 = [] /\ Q r.1 r.2.1 h' c'
structure WpO (E : Type) [MapI E V] (cx : Cx) (prim : Nat -> Option ((Tgt -> List V -> M H V) -> List V -> M H V)) (L : Acc -> Prop) (N : Nat) (ops l : List Oper) (e : E) (h : H) (c : Nat) (Q : E -> H -> Nat -> Prop) : Prop where
 w : WpX (fun n => evOps cx (evFn E cx prim n) N ops l e) h c fun e' h' c' l => (∀ x ∈ l, L x) /\ Q e' h' c'
structure WpL (E : Type) [MapI E V] (cx : Cx) (prim : Nat -> Option ((Tgt -> List V -> M H V) -> List V -> M H V)) (L : Acc -> Prop) (N : Nat) (ops l : List Oper) (al : List (List Acc)) (e : E) (h : H) (c : Nat) (Q : E -> H -> Nat -> Prop) : Prop where
 w : WpX (fun n => evLog cx (evFn E cx prim n) N ops l e) h c fun r h' c' l => (∀ x ∈ l, L x) /\ kr ops (al ++ r.2) = true /\ Q r.1 h' c'
structure WpLoop (E : Type) [MapI E V] (cx : Cx) (prim : Nat -> Option ((Tgt -> List V -> M H V) -> List V -> M H V)) (L : Acc -> Prop) (N : Nat) (b : Code) (e : E) (h : H) (c : Nat) (Q : Ex -> E -> H -> Nat -> Prop) : Prop where
 w : ∃ r h' c' l, ((∀ x ∈ l, L x) /\ r.2.2 = [] /\ Q r.1 r.2.1 h' c') /\ ∃ k, ∀ n j, k <= n -> k <= j -> loopM (evCode cx (evFn E cx prim n) false N n b) j [] e h c = .ok r h' c' l
theorem yU {a b : List Acc} (x : ∀ z ∈ a, L z) (y : ∀ z ∈ b, L z) : ∀ z ∈ a ++ b, L z := fun z hz => by
 rcases zk hz with h | h
 ·exact x z h
 ·exact y z h
variable {N : Nat} {e : E} {Q : Ex -> E -> H -> Nat -> Prop} {R : E -> H -> Nat -> Prop}
theorem WpC.mono {cd : Code} {Q' : Ex -> E -> H -> Nat -> Prop} (w : WpC E cx prim L N cd e h c Q) (hq : ∀ x e h c, Q x e h c -> Q' x e h c) : WpC E cx prim L N cd e h c Q' :=
 ⟨w.w.mono fun _ _ _ _ ⟨a, b, q⟩ => ⟨a, b, hq _ _ _ _ q⟩⟩
theorem zz (q : Q .normal e h c) : WpC E cx prim L N .skip e h c Q := ⟨zT (fun n => rfl) ⟨zV, rfl, q⟩⟩
theorem zF {i : Nat} (q : Q (.exit i) e h c) : WpC E cx prim L N (.exit i) e h c Q := ⟨zT (fun n => rfl) ⟨zV, rfl, q⟩⟩
theorem zG (q : Q .ret e h c) : WpC E cx prim L N .ret e h c Q := ⟨zT (fun n => rfl) ⟨zV, rfl, q⟩⟩
def seqQ (Q : Ex -> E -> H -> Nat -> Prop) (K : E -> H -> Nat -> Prop) : Ex -> E -> H -> Nat -> Prop
 | .normal, e, h, c => K e h c
 | x, e, h, c => Q x e h c
def blkQ (i : Nat) (Q : Ex -> E -> H -> Nat -> Prop) : Ex -> E -> H -> Nat -> Prop
 | .exit j, e, h, c => bif Nat.beq j i then Q .normal e h c else Q (.exit j) e h c
 | x, e, h, c => Q x e h c
theorem zU {K : E -> H -> Nat -> Prop} (q : K e h c) : seqQ Q K .normal e h c := q
theorem yn {K : E -> H -> Nat -> Prop} (q : Q .ret e h c) : seqQ Q K .ret e h c := q
theorem ji {K : E -> H -> Nat -> Prop} {i : Nat} (q : Q (.exit i) e h c) : seqQ Q K (.exit i) e h c := q
theorem js {i : Nat} (q : Q .normal e h c) : blkQ i Q .normal e h c := q
theorem qr {i : Nat} (q : Q .ret e h c) : blkQ i Q .ret e h c := q
theorem jr {i j : Nat} (hb : Nat.beq j i = true) (q : Q .normal e h c) : blkQ i Q (.exit j) e h c := by simp only [blkQ, hb]; exact q
theorem blkQ_by {i j : Nat} (hb : Nat.beq j i = false) (q : Q (.exit j) e h c) : blkQ i Q (.exit j) e h c := by simp only [blkQ, hb]; exact q
theorem zw {a b : Code} (w : WpC E cx prim L N a e h c (seqQ Q fun e' h' c' => WpC E cx prim L N b e' h' c' Q)) : WpC E cx prim L N (.seq a b) e h c Q := by
 refine ⟨?_⟩
 have w := w.w
 refine WpX.congr (m' := fun n => bnd (evCode cx (evFn E cx prim n) false N n a [] e) fun r => match r with
  | (.normal, e, ms) => evCode cx (evFn E cx prim n) false N n b ms e
  | r => Ab.ret r) (WpX.bnd (f := fun (r : Out E) n => match r with
  | (.normal, e, ms) => evCode cx (evFn E cx prim n) false N n b ms e
  | r => Ab.ret r) (w.mono fun r h' c' l ⟨hl, hms, q⟩ => ?_)) fun n => by rw [evCode] <;> rfl
 obtain ⟨x, e', ms⟩ := r
 simp only at hms
 subst hms
 cases x with
 | normal => exact WpX.mono (show WpC _ _ _ _ _ _ _ _ _ _ from q).w fun r h'' c'' l' ⟨hl', hm', q'⟩ => ⟨yU hl hl', hm', q'⟩
 | exit i => exact zT (fun n => rfl) ⟨yU hl zV, rfl, q⟩
 | ret => exact zT (fun n => rfl) ⟨yU hl zV, rfl, q⟩
theorem zJ {a b : Code} (M : E -> H -> Nat -> Prop) (w : WpC E cx prim L N a e h c (seqQ Q M)) (k : ∀ e h c, M e h c -> WpC E cx prim L N b e h c Q) : WpC E cx prim L N (.seq a b) e h c Q :=
 zw (w.mono fun x e' h' c' q => by
  cases x with
  | normal => exact k _ _ _ q
  | exit i => exact q
  | ret => exact q)
theorem zB {i : Nat} {b : Code} (w : WpC E cx prim L N b e h c (blkQ i Q)) : WpC E cx prim L N (.block i b) e h c Q := by
 refine ⟨?_⟩
 have w := w.w
 refine WpX.congr (m' := fun n => bnd (evCode cx (evFn E cx prim n) false N n b [] e) fun r => match r with
  | (.exit j, e, ms) => if j = i then Ab.ret (.normal, e, ms) else Ab.ret (.exit j, e, ms)
  | r => Ab.ret r) (WpX.bnd (f := fun (r : Out E) n => match r with
  | (.exit j, e, ms) => if j = i then Ab.ret (.normal, e, ms) else Ab.ret (.exit j, e, ms)
  | r => Ab.ret r) (w.mono fun r h' c' l ⟨hl, hms, q⟩ => ?_)) fun n => by rw [evCode] <;> rfl
 obtain ⟨x, e', ms⟩ := r
 simp only at hms
 subst hms
 cases x with
 | normal => exact zT (fun n => rfl) ⟨yU hl zV, rfl, q⟩
 | ret => exact zT (fun n => rfl) ⟨yU hl zV, rfl, q⟩
 | exit j =>
  simp only [blkQ] at q
  by_cases hj : j = i
  ·subst hj
   rw [Nat.beq_refl] at q
   have q : Q .normal e' h' c' := q
   exact zT (fun n => by simp only [if_true]; rfl) ⟨yU hl zV, rfl, q⟩
  ·have hb : Nat.beq j i = false := by rw [Bool.eq_false_iff]; intro e; exact hj (Nat.eq_of_beq_eq_true e)
   rw [hb] at q
   have q : Q (.exit j) e' h' c' := q
   exact zT (fun n => by simp only [if_neg hj]; rfl) ⟨yU hl zV, rfl, q⟩
theorem zH {x : Operand} {a d : Code} {b : Bool} (hx : ev1 cx e x = some (.bool b)) (ha : b = true -> WpC E cx prim L N a e h c Q) (hd : b = false -> WpC E cx prim L N d e h c Q) :
  WpC E cx prim L N (.cond x a d) e h c Q := by
 have key : ∀ n, evCode cx (evFn E cx prim n) false N n (.cond x a d) [] e = (if b = true then evCode cx (evFn E cx prim n) false N n a [] e else evCode cx (evFn E cx prim n) false N n d [] e : M H (Out E)) := fun n => by
  funext h c
  rw [evCode, hx]
  cases b <;> simp [lift, bnd, Ab.ret] <;> split <;> simp_all
 cases b with
 | true => exact ⟨WpX.congr (ha rfl).w fun n => by rw [key]; rfl⟩
 | false => exact ⟨WpX.congr (hd rfl).w fun n => by rw [key]; rfl⟩
theorem zd {x : Operand} {a d : Code} (hx : ev1 cx e x = some (.bool false)) (w : WpC E cx prim L N d e h c Q) : WpC E cx prim L N (.cond x a d) e h c Q := zH hx (fun h => by cases h) fun _ => w
theorem ze {x : Operand} {a d : Code} (hx : ev1 cx e x = some (.bool true)) (w : WpC E cx prim L N a e h c Q) : WpC E cx prim L N (.cond x a d) e h c Q := zH hx (fun _ => w) fun h => by cases h
theorem zx {k : Nat} {ops : Array Oper} (w : WpO E cx prim L N ops.toList ops.toList e h c (Q .normal)) : WpC E cx prim L N (.region k ops false) e h c Q := by
 refine ⟨?_⟩
 have w := w.w
 refine WpX.congr (m' := fun n => bnd (evOps cx (evFn E cx prim n) N ops.toList ops.toList e) fun e => Ab.ret (.normal, e, [])) (WpX.bnd (f := fun (r : E) n => (Ab.ret (.normal, r, []) : M H (Out E))) (w.mono fun r h' c' l ⟨hl, q⟩ => ?_))
  fun n => by rw [evCode] <;> rfl
 exact zT (fun n => rfl) ⟨yU hl zV, rfl, q⟩
theorem zy {k : Nat} {ops : Array Oper} (w : WpL E cx prim L N ops.toList ops.toList [] e h c (Q .normal)) : WpC E cx prim L N (.region k ops true) e h c Q := by
 refine ⟨?_⟩
 have w := w.w
 obtain ⟨⟨e', zR⟩, h', c', l, ⟨hl, hlog, q⟩, k', hk⟩ := w
 refine ⟨(.normal, e', []), h', c', (l ++ []) ++ [], ⟨fun x hx => hl x (by simpa using hx), rfl, q⟩, k', fun n hn => ?_⟩
 have hlog' : kr ops.toList zR = true := by simpa using hlog
 show evCode cx (evFn E cx prim n) false N n (.region k ops true) [] e h c = _
 rw [evCode]
 refine yr (c' := c') (h' := h') (a := e') ?_ rfl
 show evDrawn cx (evFn E cx prim n) N ops.toList e h c = _
 exact yr (hk n hn) (by simp only [hlog', if_true]; rfl)
theorem zK {ops : List Oper} (q : R e h c) : WpO E cx prim L N ops [] e h c R := ⟨zT (fun n => rfl) ⟨zV, q⟩⟩
def putd (e : E) (d : Option Tmp) (v : V) : E :=
 match d with
 | none => e
 | some d => MapI.set e d v
def dstOk (N : Nat) (d : Option Tmp) : Bool :=
 match d with
 | none => true
 | some d => Nat.blt d N
theorem putE_eq {d : Option Tmp} {v : V} (hd : dstOk N d = true) : (putE N e d v : M H E) = Ab.ret (putd e d v) := by
 cases d with
 | none => rfl
 | some d =>
  have : d < N := by have : Nat.blt d N = true := hd; exact zf this
  simp only [putE, if_pos this, putd]
theorem zL {ops l : List Oper} {o : Oper} (hw : qx ops e o = some true) (hd : dstOk N o.dst = true)
  (w : WpX (fun n => opM cx (evFn E cx prim n) e o) h c fun v h' c' al => (∀ x ∈ al, L x) /\ WpO E cx prim L N ops l (putd e o.dst v) h' c' R) : WpO E cx prim L N ops (o :: l) e h c R := by
 refine ⟨?_⟩
 refine WpX.congr (m' := fun n => bnd (bnd (opM cx (evFn E cx prim n) e o) fun v => putE N e o.dst v) fun e => evOps cx (evFn E cx prim n) N ops l e)
  (WpX.bnd (f := fun (r : E) n => evOps cx (evFn E cx prim n) N ops l r) (WpX.bnd (f := fun v n => (putE N e o.dst v : M H E)) (w.mono fun v h' c' al ⟨hl, w'⟩ => ?_)))
  fun n => by rw [evOps, stepOp, hw]
 refine zT (fun n => by rw [putE_eq hd]; rfl) ?_
 exact w'.w.mono fun r h'' c'' l' ⟨hl', q⟩ => ⟨yU (yU hl zV) hl', q⟩
theorem zM {ops l : List Oper} {o : Oper} (hw : qx ops e o = some false) (hd : dstOk N o.dst = true) (w : WpO E cx prim L N ops l (putd e o.dst undefV) h c R) : WpO E cx prim L N ops (o :: l) e h c R := by
 refine ⟨?_⟩
 refine WpX.congr (m' := fun n => bnd (putE N e o.dst undefV) fun e => evOps cx (evFn E cx prim n) N ops l e)
  (WpX.bnd (f := fun (r : E) n => evOps cx (evFn E cx prim n) N ops l r) (zT (fun n => by rw [putE_eq hd]; rfl) (w.w.mono fun r h'' c'' l' ⟨hl', q⟩ => ⟨yU zV hl', q⟩)))
  fun n => by rw [evOps, stepOp, hw]
theorem zN {ops : List Oper} {al : List (List Acc)} (hl : kr ops al = true) (q : R e h c) : WpL E cx prim L N ops [] al e h c R :=
 ⟨zT (fun n => rfl) ⟨zV, by rw [List.append_nil]; exact hl, q⟩⟩
theorem zO {ops l : List Oper} {al : List (List Acc)} {o : Oper} (hw : qx ops e o = some true) (hd : dstOk N o.dst = true)
  (w : WpX (fun n => opM cx (evFn E cx prim n) e o) h c fun v h' c' a => (∀ x ∈ a, L x) /\ WpL E cx prim L N ops l (al ++ [a]) (putd e o.dst v) h' c' R) : WpL E cx prim L N ops (o :: l) al e h c R := by
 refine ⟨?_⟩
 obtain ⟨v, h1, c1, a, ⟨hla, ⟨⟨e2, zR⟩, h2, c2, l2, ⟨hl2, hlog, q⟩, k2, hk2⟩⟩, k1, hk1⟩ := w
 refine ⟨(e2, a :: zR), h2, c2, a ++ (l2 ++ []), ⟨yU hla (yU hl2 zV), by simpa using hlog, q⟩, k1 + k2, fun n hn => ?_⟩
 show evLog cx (evFn E cx prim n) N ops (o :: l) e h c = _
 rw [evLog]
 refine yr (a := (putd e o.dst v, a)) (h' := h1) (c' := c1) ?_ (yr (hk2 n (by omega)) rfl)
 have : stepOp cx (evFn E cx prim n) N ops o e h c = .ok (putd e o.dst v) h1 c1 a := by
  rw [stepOp, hw, <- List.append_nil a]
  exact yr (hk1 n (by omega)) (by rw [putE_eq hd]; rfl)
 unfold listen
 rw [this]
theorem za {ops l : List Oper} {o : Oper} {v : V} {h1 : H} {c1 : Nat} (hw : qx ops e o = some true) (hd : dstOk N o.dst = true) (hp : ∀ n, opM cx (evFn E cx prim n) e o h c = .ok v h1 c1 []) (q : WpO E cx prim L N ops l (putd e o.dst v) h1 c1 R) : WpO E cx prim L N ops (o :: l) e h c R :=
 zL hw hd (zT hp ⟨zV, q⟩)
theorem zb {ops l : List Oper} {al : List (List Acc)} {o : Oper} {v : V} {h1 : H} {c1 : Nat} (hw : qx ops e o = some true) (hd : dstOk N o.dst = true) (hp : ∀ n, opM cx (evFn E cx prim n) e o h c = .ok v h1 c1 []) (q : WpL E cx prim L N ops l (al ++ [[]]) (putd e o.dst v) h1 c1 R) : WpL E cx prim L N ops (o :: l) al e h c R :=
 zO hw hd (zT hp ⟨zV, q⟩)
theorem zP {ops l : List Oper} {al : List (List Acc)} {o : Oper} (hw : qx ops e o = some false) (hd : dstOk N o.dst = true) (w : WpL E cx prim L N ops l (al ++ [[]]) (putd e o.dst undefV) h c R) : WpL E cx prim L N ops (o :: l) al e h c R := by
 refine ⟨?_⟩
 obtain ⟨⟨e2, zR⟩, h2, c2, l2, ⟨hl2, hlog, q⟩, k2, hk2⟩ := w.w
 refine ⟨(e2, [] :: zR), h2, c2, [] ++ (l2 ++ []), ⟨yU zV (yU hl2 zV), by simpa using hlog, q⟩, k2, fun n hn => ?_⟩
 show evLog cx (evFn E cx prim n) N ops (o :: l) e h c = _
 rw [evLog]
 refine yr (a := (putd e o.dst undefV, [])) (h' := h) (c' := c) ?_ (yr (hk2 n hn) rfl)
 have : stepOp cx (evFn E cx prim n) N ops o e h c = .ok (putd e o.dst undefV) h c [] := by
  rw [stepOp, hw]
  show putE N e o.dst undefV h c = _
  rw [putE_eq hd]; rfl
 unfold listen
 rw [this]
def Dis (a b : List Acc) : Prop := ∀ x ∈ a, ∀ y ∈ b, x.name = y.name -> x.writes = false /\ y.writes = false
theorem hitsOne_of {n : Nat} {w : Bool} : ∀ {l : List Acc}, (∀ y ∈ l, n = y.name -> w = false /\ y.writes = false) -> hitsOne n w l = false
 | [], _ => rfl
 | a :: l, h => by
  unfold hitsOne
  rw [hitsOne_of fun y hy => h y (zg _ hy), Bool.or_false]
  cases hb : Nat.beq a.name n with
  | false => rfl
  | true =>
   obtain ⟨h1, h2⟩ := h a (zq ..) (Nat.eq_of_beq_eq_true hb).symm
   rw [h1, h2]; rfl
theorem meet_of {m : List Acc} : ∀ {l : List Acc}, Dis l m -> meet l m = false
 | [], _ => rfl
 | a :: l, h => by
  unfold meet
  rw [meet_of fun x hx => h x (zg _ hx), Bool.or_false]
  exact hitsOne_of fun y hy e => h a (zq ..) y hy e
def apP (i : Nat) (a : List Acc) : List (Nat × List Acc) -> Prop
 | [] => True
 | (d, b) :: l => (d.testBit i = false -> Dis a b) /\ apP i a l
def jt : Nat -> List (Nat × List Acc) -> Prop
 | _, [] => True
 | i, (_, a) :: l => (a = [] \/ apP i a l) /\ jt (i + 1) l
theorem apP_ok {i : Nat} {a : List Acc} : ∀ {l : List (Nat × List Acc)}, apP i a l -> gL i a l = true
 | [], _ => rfl
 | (d, b) :: l, h => by
  unfold gL
  rw [apP_ok h.2, Bool.and_true]
  cases hb : d.testBit i with
  | true => rfl
  | false => rw [meet_of (h.1 hb)]; rfl
theorem allP_ok : ∀ {i : Nat} {l : List (Nat × List Acc)}, jt i l -> kE i l = true
 | _, [], _ => rfl
 | i, (d, a) :: l, h => by
  unfold kE
  rw [allP_ok h.2, Bool.and_true]
  cases a with
  | nil => rfl
  | cons x a =>
   rcases h.1 with h1 | h1
   ·cases h1
   ·exact apP_ok h1
theorem ym {ops : List Oper} {logs : List (List Acc)} {cs : List Nat} (hc : j3 ops [] = cs) (h : jt 0 (cs.zip logs)) : kr ops logs = true := by
 unfold kr
 rw [hc, allP_ok h, Bool.or_true]
theorem zI {b : Code} (w : WpLoop E cx prim L N b e h c Q) : WpC E cx prim L N (.loop b) e h c Q := by
 obtain ⟨r, h', c', l, q, k, hk⟩ := w.w
 exact ⟨r, h', c', l, q, k, fun n hn => by show evCode cx (evFn E cx prim n) false N n (.loop b) [] e h c = _; rw [evCode]; exact hk n n hn hn⟩
theorem WpLoop.step {b : Code} (w : WpC E cx prim L N b e h c (seqQ Q fun e' h' c' => WpLoop E cx prim L N b e' h' c' Q)) : WpLoop E cx prim L N b e h c Q := by
 obtain ⟨⟨x, e', ms⟩, h', c', l, ⟨hl, hms, q⟩, k, hk⟩ := w.w
 simp only at hms q
 subst hms
 refine ⟨?_⟩
 cases x with
 | normal =>
  obtain ⟨r, h'', c'', l', ⟨hl', hm', q'⟩, k', hk'⟩ := (show WpLoop _ _ _ _ _ _ _ _ _ _ from q).w
  refine ⟨r, h'', c'', l ++ l', ⟨yU hl hl', hm', q'⟩, k + k' + 1, fun n j hn hj => ?_⟩
  obtain ⟨j, rfl⟩ : ∃ i, j = i + 1 := ⟨j - 1, by omega⟩
  rw [loopM]
  exact yr (hk n (by omega)) (hk' n j (by omega) (by omega))
 | exit i =>
  refine ⟨(.exit i, e', []), h', c', l ++ [], ⟨yU hl zV, rfl, q⟩, k + 1, fun n j hn hj => ?_⟩
  obtain ⟨j, rfl⟩ : ∃ i, j = i + 1 := ⟨j - 1, by omega⟩
  rw [loopM]
  exact yr (hk n (by omega)) rfl
 | ret =>
  refine ⟨(.ret, e', []), h', c', l ++ [], ⟨yU hl zV, rfl, q⟩, k + 1, fun n j hn hj => ?_⟩
  obtain ⟨j, rfl⟩ : ∃ i, j = i + 1 := ⟨j - 1, by omega⟩
  rw [loopM]
  exact yr (hk n (by omega)) rfl
theorem zQ {b : Code} {X : Type} (I : X -> E -> H -> Nat -> Prop) (μ : X -> Nat)
  (step : ∀ x e h c, I x e h c -> WpC E cx prim L N b e h c (seqQ Q fun e' h' c' => ∃ y, μ y < μ x /\ I y e' h' c')) :
  ∀ x e h c, I x e h c -> WpLoop E cx prim L N b e h c Q := by
 suffices hh : ∀ k x e h c, μ x < k -> I x e h c -> WpLoop E cx prim L N b e h c Q from fun x e h c hi => hh (μ x + 1) x e h c (Nat.lt_succ_self _) hi
 intro k
 induction k with
 | zero => intro x e h c hk; exact absurd hk (Nat.not_lt_zero _)
 | succ k ih =>
  intro x e h c hk hi
  refine WpLoop.step ((step x e h c hi).mono fun ex e' h' c' q => ?_)
  cases ex with
  | normal => obtain ⟨y, hy, hi'⟩ := q; exact ih y e' h' c' (by omega) hi'
  | exit i => exact q
  | ret => exact q
def resV (e : E) : List ResultVar -> Option (List V)
 | [] => some []
 | .tmp t :: l => match MapI.get e t with
  | none => none
  | some v => match resV e l with
   | none => none
   | some vs => some (v :: vs)
 | .cell _ _ :: _ => none
theorem resM_eq : ∀ {l : List ResultVar} {vs : List V}, resV e l = some vs -> (resM cx e l : M H (List V)) h c = .ok vs h c []
 | [], vs, hr => by simp [resV] at hr; subst hr; rfl
 | .tmp t :: l, vs, hr => by
  simp only [resV] at hr
  cases hg : MapI.get e t with
  | none => rw [hg] at hr; cases hr
  | some v =>
   rw [hg] at hr
   cases hv : resV e l with
   | none => simp only [hv] at hr; cases hr
   | some ws =>
    simp only [hv, Option.some.injEq] at hr; subst hr
    simp only [resM, hg, lift, bnd, Ab.ret, resM_eq hv, List.append_nil]
 | .cell _ _ :: _, vs, hr => by simp [resV] at hr
def outQ (rs : List ResultVar) (Q : V -> H -> Nat -> Prop) : Ex -> E -> H -> Nat -> Prop
 | .exit _, _, _, _ => False
 | _, e, h, c => ∃ vs, resV e rs = some vs /\ Q (tup vs) h c
theorem enter {f : Nat} {fn : Func} {code : Code} {xs : List V} {Q : V -> H -> Nat -> Prop} (hf : cx.fn f = some fn) (hb : fn.body = some code) (hp : prim f = none) (hn : xs.length <= fn.ntmps)
  (w : WpC E cx prim L fn.ntmps code (initE xs 0 (MapI.emp : E)) h c (outQ fn.results.toList Q)) : WpX (fun n => evFn E cx prim n (.fn f) xs) h c fun v h' c' l => (∀ x ∈ l, L x) /\ Q v h' c' := by
 obtain ⟨⟨x, e', ms⟩, h', c', l, ⟨hl, hms, q⟩, k, hk⟩ := w.w
 simp only at hms q
 subst hms
 have key : ∃ vs, resV e' fn.results.toList = some vs /\ Q (tup vs) h' c' /\ ∀ i, x ≠ .exit i := by
  cases x with
  | exit i => exact q.elim
  | normal => obtain ⟨vs, a, b⟩ := q; exact ⟨vs, a, b, fun i h => by cases h⟩
  | ret => obtain ⟨vs, a, b⟩ := q; exact ⟨vs, a, b, fun i h => by cases h⟩
 obtain ⟨vs, hv, hQ, hx⟩ := key
 refine ⟨tup vs, h', c', l ++ ([] ++ ([] ++ [])), ⟨by simpa using hl, hQ⟩, k + 1, fun n hn' => ?_⟩
 obtain ⟨n, rfl⟩ : ∃ i, n = i + 1 := ⟨n - 1, by omega⟩
 show evFn E cx prim (n + 1) (.fn f) xs h c = _
 rw [evFn]
 simp only [hp, bodyM, hf, hb, if_pos hn]
 refine yr (hk n (by omega)) ?_
 cases x with
 | exit i => exact (hx i rfl).elim
 | normal => exact yr rfl (yr (resM_eq hv) rfl)
 | ret => exact yr rfl (yr (resM_eq hv) rfl)
theorem jG {α : Type} {s : String} {a : α} : (lift s (some a) : M H α) h c = .ok a h c [] := rfl
theorem kX {n : Nat} {o : AObj} (hh : MapI.get h n = some o) : getM n h c = .ok o h c [.rd n] := by
 unfold getM
 rw [hh]
theorem setM_eq {n : Nat} {o p : AObj} (hh : MapI.get h n = some o) : setM n p h c = .ok () (MapI.set h n p) c [.wr n] := by
 unfold setM
 rw [hh]
variable {call : Nat -> Tgt -> List V -> M H V} {W : V -> H -> Nat -> List Acc -> Prop} {ds : Option Tmp} {ty : Nat} {pos : String} {af : Array Edge} {gd : Option (Nat × Bool)}
theorem cut_one {cs : List V} {o : Nat} {v : V} (hv : nth cs o = some v) : cut cs o 1 = some [v] := by
 have hn : ∀ (l : List V) (i : Nat), nth l i = l[i]? := fun l i => by
  induction l generalizing i with
  | nil => simp [nth]
  | cons x l ih => cases i with
   | zero => simp [nth]
   | succ i => simp [nth, ih]
 rw [hn] at hv
 obtain ⟨hlt, he⟩ := zj hv
 unfold cut
 rw [if_pos (by omega), List.drop_eq_getElem_cons hlt]
 simp [he]
theorem zW {t : Nat} {x : Operand} {n o : Nat} {d : TypeDesc} {rw cl : Bool} {cs : List V} {v : V} (hx : ev1 cx e x = some (.ptr (some (n, o)))) (hd : cx.desc t = some d) (ha : aggD d = false)
  (hh : MapI.get h n = some (.cells rw cl cs)) (hv : nth cs o = some v) (q : W v h c [.rd n]) : WpX (fun k => opM cx (call k) e ⟨ds, .load t x, ty, pos, af, gd⟩) h c W :=
 zT (fun k => by simp only [opM, hx, lift, bnd, Ab.ret, asP, loadT, hd, ha, Bool.false_eq_true, if_false, loadC, getM, hh, cut_one hv, List.nil_append, List.append_nil]) q
theorem yC {t : Nat} {x : Operand} {n o k : Nat} {d : TypeDesc} {rw cl : Bool} {cs l : List V} (hx : ev1 cx e x = some (.ptr (some (n, o)))) (hd : cx.desc t = some d) (ha : aggD d = true) (hk : cx.size t = some k)
  (hh : MapI.get h n = some (.cells rw cl cs)) (hv : cut cs o k = some l) (q : W (.agg l) h c [.rd n]) : WpX (fun k => opM cx (call k) e ⟨ds, .load t x, ty, pos, af, gd⟩) h c W :=
 zT (fun k => by simp only [opM, hx, lift, bnd, Ab.ret, asP, loadT, hd, ha, hk, if_true, loadC, getM, hh, hv, List.nil_append, List.append_nil]) q
theorem ya {t : Nat} {x y : Operand} {n o k : Nat} {cl : Bool} {cs : List V} {v : V} (hx : ev1 cx e x = some (.ptr (some (n, o)))) (hy : ev1 cx e y = some v) (hk : cx.size t = some k) (hl : (yR v).length = k)
  (hh : MapI.get h n = some (.cells true cl cs)) (hb : o + k <= cs.length) (h1 : (yR v).all jR = true) (q : W (.tuple []) (MapI.set h n (.cells true cl (yu cs o (yR v)))) c [.rd n, .wr n]) :
  WpX (fun k => opM cx (call k) e ⟨ds, .store t x y, ty, pos, af, gd⟩) h c W :=
 zT (fun k' => by
  have e2 : storeC n o (yR v) h c = .ok () (MapI.set h n (.cells true cl (yu cs o (yR v)))) c [.rd n, .wr n] := by
   refine yr (kX hh) ?_
   simp only [hl, if_pos hb, h1, if_true]
   exact setM_eq hh
  have e1 : storeT cx t n o v h c = .ok () (MapI.set h n (.cells true cl (yu cs o (yR v)))) c [.rd n, .wr n] := by
   unfold storeT
   simp only [hk, hl, if_true]
   exact e2
  show bnd (lift "operand" (ev1 cx e x)) (fun a => bnd (lift "operand" (ev1 cx e y)) fun v => bnd (asP a) fun (n, o) => bnd (storeT cx t n o v) fun _ => Ab.ret (V.tuple [])) h c = _
  rw [hx, hy]
  exact yr jG (yr jG (yr (a := (n, o)) (h' := h) (c' := c) (l := []) rfl (yr e1 rfl)))) q
theorem g9 {f : Nat} {args : Array Operand} {ats : Array Nat} {xs : List V} (ha : evs cx e args.toList = some xs) (w : WpX (fun n => call n (.fn f) xs) h c W) :
  WpX (fun n => opM cx (call n) e ⟨ds, .call ⟨.value (.func f), args, ats⟩, ty, pos, af, gd⟩) h c W := by
 obtain ⟨a, h', c', l, q, k, hk⟩ := w
 refine ⟨a, h', c', l, q, k, fun n hn => ?_⟩
 simp only [opM, callM, ha, lift, bnd, Ab.ret, ev1, List.nil_append, List.append_nil, hk n hn]
theorem zZ {t : Nat} {x y : Operand} {n o len el k : Nat} {cap : Cap} {ki : IntKind} {i : Int} (hx : ev1 cx e x = some (.slice (some (n, o)) len cap)) (hy : ev1 cx e y = some (.int ki i)) (hd : cx.desc t = some (.slice el))
  (hk : cx.size el = some k) (hb : 0 <= i /\ i < len) (q : W (.ptr (some (n, o + i.toNat * k))) h c []) : WpX (fun k => opM cx (call k) e ⟨ds, .indexAddr t x y, ty, pos, af, gd⟩) h c W :=
 zT (fun k' => by simp only [opM, hx, hy, lift, bnd, Ab.ret, indexAddrM, hd, if_pos hb, hk, List.nil_append, List.append_nil]) q
theorem yM {t : Nat} {z : V} (hz : cx.zero t = some z) (q : W (.ptr (some (c, 0))) (MapI.set h c (.cells true true (yR z))) (c + 1) [.wr c]) :
  WpX (fun k => opM cx (call k) e ⟨ds, .alloc t, ty, pos, af, gd⟩) h c W :=
 zT (fun k' => by simp only [opM, hz, lift, bnd, Ab.ret, newM, List.nil_append, List.append_nil]) q
theorem yK {t : Nat} {x : Operand} {v : V} (hx : ev1 cx e x = some v) (q : W (.ptr (some (c, 0))) (MapI.set h c (.cells true true (yR v))) (c + 1) [.wr c]) :
  WpX (fun k => opM cx (call k) e ⟨ds, .box t x, ty, pos, af, gd⟩) h c W :=
 zT (fun k' => by simp only [opM, hx, lift, bnd, Ab.ret, newM, List.nil_append, List.append_nil]) q
theorem op_len {args : Array Operand} {ats : Array Nat} {v : V} {xs : List V} {t : Nat} {ts : List Nat} {d : TypeDesc} {n : Nat} {a : Option (Nat × Nat)} {cap : Cap} {el : Nat} (ha : evs cx e args.toList = some (.slice a n cap :: xs)) (ht : ats.toList = t :: ts) (hd : cx.desc t = some (.slice el))
  (q : W (.int .i64 n) h c []) : WpX (fun k => opM cx (call k) e ⟨ds, .call ⟨.builtin .len, args, ats⟩, ty, pos, af, gd⟩) h c W :=
 zT (fun k' => by simp only [opM, callM, ha, ht, lift, bnd, Ab.ret, builtinM, lenM, hd, List.nil_append, List.append_nil]) q
end
open Go.RowKit
structure Loc where
 blk : Nat
 off : Nat
 lim : Nat
abbrev Nm := Nat -> Option Loc
def Nm.put (φ : Nm) (n : Nat) (L : Loc) : Nm := fun m => if m = n then some L else φ m
mutual
inductive VR (φ : Nm) : V -> Value -> Prop where
 | bool (b : Bool) : VR φ (.bool b) (.bool b)
 | int (k : IntKind) (n : Int) : VR φ (.int k n) (.int k n)
 | str (s : List UInt8) : VR φ (.str s) (.string ⟨⟨s⟩⟩)
 | ptrNil : VR φ (.ptr none) (.pointer none)
 | ptr {n : Nat} {L : Loc} (o : Nat) : φ n = some L -> VR φ (.ptr (some (n, o))) (.pointer (some ⟨L.blk, L.off + o, none⟩))
 | sliceNil : VR φ (.slice none 0 (.known 0)) (.slice none 0 0)
 | sliceK {n : Nat} {L : Loc} (o len k : Nat) : φ n = some L -> len <= k -> VR φ (.slice (some (n, o)) len (.known k)) (.slice (some ⟨L.blk, L.off + o, none⟩) len k)
 | sliceK0 {n : Nat} {L : Loc} (o : Nat) (a : Addr) : φ n = some L -> VR φ (.slice (some (n, o)) 0 (.known 0)) (.slice (some a) 0 0)
 | sliceU {n : Nat} {L : Loc} (o len cap sz : Nat) : φ n = some L -> L.off + o + cap * sz = L.lim -> len <= cap -> 0 < sz ->
   VR φ (.slice (some (n, o)) len (.upTo sz)) (.slice (some ⟨L.blk, L.off + o, none⟩) len cap)
 | sliceZ {n : Nat} {L : Loc} (o sz : Nat) (a : Addr) : φ n = some L -> L.off + o = L.lim -> 0 < sz -> VR φ (.slice (some (n, o)) 0 (.upTo sz)) (.slice (some a) 0 0)
 | mapNil : VR φ (.map none) (.map none)
 | map {n : Nat} {L : Loc} : φ n = some L -> VR φ (.map (some n)) (.map (some L.blk))
 | func {fn : Fn} {a b : List V} {a' b' : List Value} : VRs φ a a' -> VRs φ b b' -> VR φ (.func fn a b) (.func fn ⟨a'⟩ ⟨b'⟩)
 | nilFunc : VR φ .nilFunc .nilFunc
 | iface (t : TypeId) {v : V} {u : Value} : VR φ v u -> VR φ (.iface t v) (.iface t u)
 | nilIface : VR φ .nilIface .nilIface
 | agg {cs : List V} {us : List Value} : VRs φ cs us -> VR φ (.agg cs) (.agg ⟨us⟩)
 | tuple {cs : List V} {us : List Value} : VRs φ cs us -> VR φ (.tuple cs) (.tuple ⟨us⟩)
 | yld {n : Nat} {L : Loc} : φ n = some L -> VR φ (.yld n) (.func (.yield L.blk) #[] #[])
inductive VRs (φ : Nm) : List V -> List Value -> Prop where
 | nil : VRs φ [] []
 | cons {v : V} {u : Value} {vs : List V} {us : List Value} : VR φ v u -> VRs φ vs us -> VRs φ (v :: vs) (u :: us)
end
structure Ext (φ φ' : Nm) (c c' : Nat) : Prop where
 mono : ∀ n L, φ n = some L -> φ' n = some L
 only : ∀ n, φ' n ≠ φ n -> c <= n /\ n < c'
theorem Ext.refl (φ : Nm) (c c' : Nat) : Ext φ φ c c' := ⟨fun _ _ h => h, fun _ h => absurd rfl h⟩
theorem Ext.trans {φ φ' φ'' : Nm} {a b c : Nat} (h : Ext φ φ' a b) (k : Ext φ' φ'' b c) (hab : a <= b) (hbc : b <= c) : Ext φ φ'' a c :=
 ⟨fun n L e => k.mono n L (h.mono n L e), fun n e => by
  by_cases x : φ'' n = φ' n
  ·have := h.only n (by rw [<- x]; exact e); omega
  ·have := k.only n x; omega⟩
theorem Ext.wide {φ φ' : Nm} {a b a' b' : Nat} (h : Ext φ φ' a b) (h1 : a' <= a) (h2 : b <= b') : Ext φ φ' a' b' :=
 ⟨h.mono, fun n e => by have := h.only n e; omega⟩
theorem Ext.put {φ : Nm} {c : Nat} (L : Loc) (h : φ c = none) : Ext φ (φ.put c L) c (c + 1) := by
 refine ⟨fun n K e => ?_, fun n e => ?_⟩
 ·unfold Nm.put; split
  ·next x => subst x; rw [h] at e; cases e
  ·exact e
 ·unfold Nm.put at e; split at e
  ·next x => omega
  ·exact absurd rfl e
mutual
theorem VR.mono {φ φ' : Nm} (h : ∀ n L, φ n = some L -> φ' n = some L) : ∀ {v : V} {u : Value}, VR φ v u -> VR φ' v u
 | _, _, .bool b => .bool b
 | _, _, .int k n => .int k n
 | _, _, .str s => .str s
 | _, _, .ptrNil => .ptrNil
 | _, _, .ptr o e => .ptr o (h _ _ e)
 | _, _, .sliceNil => .sliceNil
 | _, _, .sliceK o len k e hk => .sliceK o len k (h _ _ e) hk
 | _, _, .sliceK0 o a e => .sliceK0 o a (h _ _ e)
 | _, _, .sliceU o len cap sz e h1 h2 h3 => .sliceU o len cap sz (h _ _ e) h1 h2 h3
 | _, _, .sliceZ o sz a e h1 h2 => .sliceZ o sz a (h _ _ e) h1 h2
 | _, _, .mapNil => .mapNil
 | _, _, .map e => .map (h _ _ e)
 | _, _, .func a b => .func (VRs.mono h a) (VRs.mono h b)
 | _, _, .nilFunc => .nilFunc
 | _, _, .iface t a => .iface t (VR.mono h a)
 | _, _, .nilIface => .nilIface
 | _, _, .agg a => .agg (VRs.mono h a)
 | _, _, .tuple a => .tuple (VRs.mono h a)
 | _, _, .yld a => .yld (h _ _ a)
theorem VRs.mono {φ φ' : Nm} (h : ∀ n L, φ n = some L -> φ' n = some L) : ∀ {vs : List V} {us : List Value}, VRs φ vs us -> VRs φ' vs us
 | _, _, .nil => .nil
 | _, _, .cons a b => .cons (VR.mono h a) (VRs.mono h b)
end
theorem qL {α : Type} : ∀ (l : List α) (i : Nat), nth l i = l[i]?
 | [], _ => by simp [nth]
 | _ :: _, 0 => by simp [nth]
 | _ :: l, i + 1 => by simp [nth, qL l i]
theorem VRs.length {φ : Nm} : ∀ {vs : List V} {us : List Value}, VRs φ vs us -> vs.length = us.length
 | _, _, .nil => rfl
 | _, _, .cons _ b => by simp [b.length]
theorem VRs.get {φ : Nm} : ∀ {vs : List V} {us : List Value} (_ : VRs φ vs us) {i : Nat} {v : V}, vs[i]? = some v -> ∃ u, us[i]? = some u /\ VR φ v u
 | _, _, .nil, i, v, h => by simp at h
 | _, _, .cons a b, 0, v, h => by simp at h; subst h; exact ⟨_, by simp, a⟩
 | _, _, .cons a b, i + 1, v, h => by simp at h; obtain ⟨u, h1, h2⟩ := b.get h; exact ⟨u, by simpa using h1, h2⟩
theorem gT {φ : Nm} : ∀ {vs : List V} {us : List Value}, vs.length = us.length -> (∀ (i : Nat) (v : V), vs[i]? = some v -> ∃ u, us[i]? = some u /\ VR φ v u) -> VRs φ vs us
 | [], [], _, _ => .nil
 | [], _ :: _, h, _ => by simp at h
 | _ :: _, [], h, _ => by simp at h
 | v :: vs, u :: us, h, hg => by
  obtain ⟨u', h1, h2⟩ := hg 0 v (by simp)
  simp at h1; subst h1
  exact .cons h2 (gT (by simpa using h) fun i v hv => by have := hg (i + 1) v (by simpa using hv); simpa using this)
theorem VRs.append {φ : Nm} : ∀ {a b : List V} {a' b' : List Value}, VRs φ a a' -> VRs φ b b' -> VRs φ (a ++ b) (a' ++ b')
 | _, _, _, _, .nil, h => h
 | _, _, _, _, .cons x y, h => .cons x (y.append h)
theorem VRs.single {φ : Nm} {v : V} {u : Value} (h : VR φ v u) : VRs φ [v] [u] := .cons h .nil
theorem toV1_ok {φ : Nm} {v : Value} {x : V} (h : toV1 v = some x) : VR φ x v := by
 unfold toV1 at h
 split at h <;> first | (cases h; done) | (simp only [Option.some.injEq] at h; subst h) | skip
 ·exact .bool _
 ·exact .int _ _
 ·exact .str _
 ·exact .ptrNil
 ·exact .sliceNil
 ·exact .mapNil
 ·next f a b =>
  split at h
  ·next e1 e2 =>
   simp only [Option.some.injEq] at h; subst h
   obtain ⟨a⟩ := a; obtain ⟨b⟩ := b
   simp only at e1 e2; subst e1; subst e2
   exact .func .nil .nil
  ·cases h
 ·exact .nilFunc
 ·exact .nilIface
theorem toVs_ok {φ : Nm} : ∀ {vs : List Value} {xs : List V}, toVs vs = some xs -> VRs φ xs vs
 | [], xs, h => by simp [toVs] at h; subst h; exact .nil
 | v :: vs, xs, h => by
  unfold toVs at h
  split at h
  ·cases h
  ·next x hx =>
   split at h
   ·cases h
   ·next ys hy => simp only [Option.some.injEq] at h; subst h; exact .cons (toV1_ok hx) (toVs_ok hy)
theorem toV_ok {φ : Nm} {v : Value} {x : V} (h : toV v = some x) : VR φ x v := by
 unfold toV at h
 split at h
 ·next cs =>
  split at h
  ·next l hl => simp only [Option.some.injEq] at h; subst h; exact .agg (toVs_ok hl)
  ·cases h
 ·exact toV1_ok h
inductive MRs (φ : Nm) : List (V × V × Nat) -> List MapEntry -> Prop where
 | nil : MRs φ [] []
 | cons {k v : V} {b : Nat} {e : MapEntry} {es : List (V × V × Nat)} {us : List MapEntry} : VR φ k e.key -> VR φ v e.val -> e.born = b -> MRs φ es us ->
   MRs φ ((k, v, b) :: es) (e :: us)
theorem MRs.mono {φ φ' : Nm} (h : ∀ n L, φ n = some L -> φ' n = some L) : ∀ {es : List (V × V × Nat)} {us : List MapEntry}, MRs φ es us -> MRs φ' es us
 | _, _, .nil => .nil
 | _, _, .cons a b c d => .cons (a.mono h) (b.mono h) c (d.mono h)
def AObj.writable : AObj -> Bool
 | .cells rw _ _ => rw
 | .map rw _ _ => rw
 | .siter _ _ => true
 | .miter _ _ _ _ => true
 | .loop _ _ _ _ _ _ _ => true
 | .defs => true
 | .spent => true
 | .dead => false
def AObj.gone : AObj -> Bool
 | .dead => true
 | _ => false
def stOf : LSt -> LoopState
 | .ready => .ready
 | .busy => .busy
 | .done _ => .done
 | .over => .exhausted
def codeOf : Ex -> Code
 | .normal => .skip
 | .exit i => .exit i
 | .ret => .ret
def Pend : LSt -> Option Code -> Prop
 | .ready, p => p = none
 | .busy, p => p = none
 | .done j, p => p = some (codeOf j)
 | .over, _ => True
def KnownR (φ : Nm) (es : List (Nat × V)) (ts : Array Value) : Prop := ∀ t v, (t, v) ∈ es -> ∃ u, ts[t]? = some u /\ VR φ v u
def ObjR (φ : Nm) : AObj -> Loc -> Option Obj -> Prop
 | .cells rw clean cs, L, b => ∃ C e fr, b = some (.cells C e fr) /\ L.off + cs.length <= L.lim /\ L.lim <= C.size /\
   (∀ i v, cs[i]? = some v -> ∃ u, C[L.off + i]? = some u /\ VR φ v u) /\
   (rw = true -> ∀ j, L.off <= j -> j < L.lim -> ¬ (fr.1 <= j /\ j < fr.2)) /\ (clean = true -> fr = (0, 0) /\ L.off = 0)
 | .map _ es ck, _, b => ∃ E, b = some (.map E ck) /\ MRs φ es E.toList
 | .siter s pos, L, b => L.off = 0 /\ b = some (.stringIter ⟨⟨s⟩⟩ pos)
 | .miter m since seen last, L, b => L.off = 0 /\ ((m = none /\ ∃ s q c, b = some (.mapIter none s q c)) \/ ∃ n K, m = some n /\ φ n = some K /\ b = some (.mapIter (some K.blk) since ⟨seen⟩ last))
 | .loop st _ N es ps zR bo, L, b => L.off = 0 /\ ∃ r : Loop, b = some (.loop r) /\ r.state = stOf st /\ Pend st r.pending /\ r.tmps.size = N /\ KnownR φ es r.tmps /\ r.params.toList = ps /\ r.assign = zR /\ r.body = bo /\ jg zR = true /\ jg bo = true
 | .defs, _, b => b = some (.deferred (some []))
 | .spent, _, b => ∃ x, b = some x
 | .dead, _, _ => True
theorem ObjR.mono {φ φ' : Nm} (h : ∀ n L, φ n = some L -> φ' n = some L) {o : AObj} {L : Loc} {b : Option Obj} (r : ObjR φ o L b) : ObjR φ' o L b := by
 cases o with
 | cells rw cl cs =>
  obtain ⟨C, e, fr, h1, h2, h3, h4, h5⟩ := r
  exact ⟨C, e, fr, h1, h2, h3, fun i v hv => by obtain ⟨u, a, b⟩ := h4 i v hv; exact ⟨u, a, b.mono h⟩, h5⟩
 | map rw es ck => obtain ⟨E, h1, h2⟩ := r; exact ⟨E, h1, h2.mono h⟩
 | siter s pos => exact r
 | miter m since seen last => exact ⟨r.1, r.2.imp id fun ⟨n, K, h1, h2, h3⟩ => ⟨n, K, h1, h _ _ h2, h3⟩⟩
 | loop st d N es ps zR bo =>
  obtain ⟨h0, q, h1, h2, h3, h4, h5, h6⟩ := r
  exact ⟨h0, q, h1, h2, h3, h4, fun t v hv => by obtain ⟨u, a, b⟩ := h5 t v hv; exact ⟨u, a, b.mono h⟩, h6⟩
 | defs => exact r
 | spent => exact r
 | dead => trivial
theorem ObjR.there {φ : Nm} {o : AObj} {L : Loc} {b : Option Obj} (r : ObjR φ o L b) (hg : o.gone = false) : ∃ x, b = some x := by
 cases o with
 | cells rw cl cs => obtain ⟨C, e, fr, h1, _⟩ := r; exact ⟨_, h1⟩
 | map rw es ck => obtain ⟨E, h1, _⟩ := r; exact ⟨_, h1⟩
 | siter s pos => exact ⟨_, r.2⟩
 | miter m since seen last => rcases r.2 with ⟨_, s, q, c, h⟩ | ⟨n, K, _, _, h⟩ <;> exact ⟨_, h⟩
 | loop st d N es ps zR bo => obtain ⟨_, q, h1, _⟩ := r; exact ⟨_, h1⟩
 | defs => exact ⟨_, r⟩
 | spent => exact r
 | dead => cases hg
def World.setBlk (w : World) (b : Nat) (o : Obj) : World := { w with heap := w.heap.setIfInBounds b o }
section
variable {H : Type} [MapI H AObj]
structure Rel (ng : Nat) (w0 : World) (φ : Nm) (h : H) (w : World) : Prop where
 below : Below w0.heap.size w0 w
 obj : ∀ n o, MapI.get h n = some o -> ∃ L, φ n = some L /\ ObjR φ o L w.heap[L.blk]? /\ (o.writable = true -> w0.heap.size <= L.blk) /\
  (o.writable = false -> o.gone = false -> L.blk < w0.heap.size)
 apart : ∀ n m o p L K, n ≠ m -> MapI.get h n = some o -> MapI.get h m = some p -> o.writable = true -> p.writable = true -> φ n = some L -> φ m = some K -> L.blk ≠ K.blk
 glob : ∀ g, g < ng -> ∃ L, φ g = some L /\ L.blk = g /\ L.off = 0
variable {ng : Nat} {w0 w : World} {φ : Nm} {h : H}
theorem gl {o : AObj} (h : o.writable = true) : o.gone = false := by cases o <;> first | rfl | cases h
theorem Rel.lt (r : Rel ng w0 φ h w) {n : Nat} {o : AObj} {L : Loc} (hn : MapI.get h n = some o) (hg : o.gone = false) (hL : φ n = some L) : L.blk < w.heap.size := by
 obtain ⟨K, h1, h2, _⟩ := r.obj n o hn
 rw [hL] at h1; cases h1
 obtain ⟨x, hx⟩ := h2.there hg
 exact (Array.getElem?_eq_some_iff.1 hx).1
theorem Rel.drew (r : Rel ng w0 φ h w) (k : Nat) : Rel ng w0 φ h { w with drawn := k } :=
 ⟨r.below.trans ⟨rfl, rfl, rfl, Nat.le_refl _, fun _ _ => rfl⟩, r.obj, r.apart, r.glob⟩
theorem Rel.setBlk (r : Rel ng w0 φ h w) {n : Nat} {o o' : AObj} {L : Loc} {b : Obj} (hn : MapI.get h n = some o) (hw : o.writable = true) (hL : φ n = some L)
  (hw' : o'.writable = true) (ho : ObjR φ o' L (some b)) : Rel ng w0 φ (MapI.set h n o') (World.setBlk w L.blk b) := by
 have hlt := r.lt hn (gl hw) hL
 have hbase : w0.heap.size <= L.blk := by
  obtain ⟨K, h1, _, h3, _⟩ := r.obj n o hn; rw [hL] at h1; cases h1; exact h3 hw
 have hblk : (World.setBlk w L.blk b).heap[L.blk]? = some b := by simp [World.setBlk, hlt]
 have hoth : ∀ k, k ≠ L.blk -> (World.setBlk w L.blk b).heap[k]? = w.heap[k]? := fun k hk => by
  simp [World.setBlk, Ne.symm hk]
 refine ⟨r.below.trans ⟨rfl, rfl, rfl, by simp [World.setBlk], fun k hk => hoth k (by omega)⟩, fun m p hm => ?_, fun a c p q K J hac ha hc hp hq hK hJ => ?_, r.glob⟩
 ·by_cases e : n = m
  ·subst e
   rw [zt] at hm; cases hm
   exact ⟨L, hL, by rw [hblk]; exact ho, fun _ => hbase, fun e => by rw [hw'] at e; cases e⟩
  ·rw [zu _ _ _ _ e] at hm
   obtain ⟨K, h1, h2, h3, h4⟩ := r.obj m p hm
   refine ⟨K, h1, ?_, h3, h4⟩
   by_cases hg : p.gone = true
   ·cases p <;> first | trivial | cases hg
   ·have hg : p.gone = false := by simpa using hg
    have : K.blk ≠ L.blk := by
     cases hpw : p.writable
     ·have := h4 hpw hg; omega
     ·exact fun e' => r.apart n m o p L K e hn hm hw hpw hL h1 e'.symm
    rw [hoth _ this]; exact h2
 ·have key : ∀ m p, MapI.get (MapI.set h n o') m = some p -> p.writable = true -> ∃ p', MapI.get h m = some p' /\ p'.writable = true := fun m p hm hp => by
   by_cases e : n = m
   ·subst e; exact ⟨o, hn, hw⟩
   ·rw [zu _ _ _ _ e] at hm; exact ⟨p, hm, hp⟩
  obtain ⟨p', h1, h2⟩ := key a p ha hp
  obtain ⟨q', h3, h4⟩ := key c q hc hq
  exact r.apart a c p' q' K J hac h1 h3 h2 h4 hK hJ
theorem Rel.alloc (r : Rel ng w0 φ h w) {c : Nat} {o : AObj} {L : Loc} {b : Obj} (hc : φ c = none) (hLb : L.blk = w.heap.size) (hw : o.writable = true)
  (ho : ObjR (φ.put c L) o L (some b)) : Rel ng w0 (φ.put c L) (MapI.set h c o) (w.alloc b) := by
 have hext : ∀ n K, φ n = some K -> (φ.put c L) n = some K := (Ext.put L hc).mono
 have hold : ∀ k, k < w.heap.size -> (w.alloc b).heap[k]? = w.heap[k]? := fun k hk => Below.heap_alloc w b k hk
 have hnew : (w.alloc b).heap[L.blk]? = some b := by rw [hLb]; exact heap_alloc_new w b
 have hput : (φ.put c L) c = some L := by simp [Nm.put]
 have hsz := r.below.size
 refine ⟨r.below.alloc hsz b, fun m p hm => ?_, fun a d p q K J had ha hd hp hq hK hJ => ?_, fun g hg => ?_⟩
 ·by_cases e : c = m
  ·subst e
   rw [zt] at hm; cases hm
   exact ⟨L, hput, by rw [hnew]; exact ho, fun _ => by omega, fun e => by rw [hw] at e; cases e⟩
  ·rw [zu _ _ _ _ e] at hm
   obtain ⟨K, h1, h2, h3, h4⟩ := r.obj m p hm
   refine ⟨K, hext _ _ h1, ?_, h3, h4⟩
   by_cases hg : p.gone = true
   ·cases p <;> first | trivial | cases hg
   ·have hlt := r.lt hm (by simpa using hg) h1
    rw [hold _ hlt]; exact h2.mono hext
 ·have key : ∀ m p K, MapI.get (MapI.set h c o) m = some p -> p.writable = true -> (φ.put c L) m = some K -> (m = c /\ K = L) \/ (m ≠ c /\ MapI.get h m = some p /\ φ m = some K /\ K.blk < w.heap.size) := fun m p K hm hp hK => by
   by_cases e : c = m
   ·subst e; rw [hput] at hK; cases hK; exact .inl ⟨rfl, rfl⟩
   ·rw [zu _ _ _ _ e] at hm
    have hK' : φ m = some K := by unfold Nm.put at hK; rw [if_neg (Ne.symm e)] at hK; exact hK
    exact .inr ⟨Ne.symm e, hm, hK', r.lt hm (gl hp) hK'⟩
  rcases key a p K ha hp hK with ⟨x, y⟩ | ⟨x1, x2, x3, x4⟩ <;> rcases key d q J hd hq hJ with ⟨z, t⟩ | ⟨z1, z2, z3, z4⟩
  ·omega
  ·subst y; omega
  ·subst t; omega
  ·exact r.apart a d p q K J had x2 z2 hp hq x3 z3
 ·obtain ⟨K, h1, h2⟩ := r.glob g hg; exact ⟨K, hext _ _ h1, h2⟩
theorem Rel.move (r : Rel ng w0 φ h w) {n c : Nat} {o o' : AObj} {L L' : Loc} (hn : MapI.get h n = some o) (hw : o.writable = true) (hL : φ n = some L) (hc : φ c = none)
  (hblk : L'.blk = L.blk) (hw' : o'.writable = true) (ho : ObjR (φ.put c L') o' L' w.heap[L'.blk]?) :
  Rel ng w0 (φ.put c L') (MapI.set (MapI.set h n .dead) c o') w := by
 have hext : ∀ n K, φ n = some K -> (φ.put c L') n = some K := (Ext.put L' hc).mono
 have hput : (φ.put c L') c = some L' := by simp [Nm.put]
 have hnc : n ≠ c := fun e => by subst e; rw [hc] at hL; cases hL
 have hbase : w0.heap.size <= L.blk := by
  obtain ⟨K, h1, _, h3, _⟩ := r.obj n o hn; rw [hL] at h1; cases h1; exact h3 hw
 refine ⟨r.below, fun m p hm => ?_, fun a d p q K J had ha hd hp hq hK hJ => ?_, fun g hg => ?_⟩
 ·by_cases e : c = m
  ·subst e
   rw [zt] at hm; cases hm
   exact ⟨L', hput, ho, fun _ => by omega, fun e => by rw [hw'] at e; cases e⟩
  ·rw [zu _ _ _ _ e] at hm
   by_cases e2 : n = m
   ·subst e2
    rw [zt] at hm; cases hm
    exact ⟨L, hext _ _ hL, trivial, fun h => (by cases h), fun _ h => (by cases h)⟩
   ·rw [zu _ _ _ _ e2] at hm
    obtain ⟨K, h1, h2, h3, h4⟩ := r.obj m p hm
    exact ⟨K, hext _ _ h1, h2.mono hext, h3, h4⟩
 ·have key : ∀ m p K, MapI.get (MapI.set (MapI.set h n .dead) c o') m = some p -> p.writable = true -> (φ.put c L') m = some K ->
    (m = c /\ K = L') \/ (m ≠ c /\ m ≠ n /\ MapI.get h m = some p /\ φ m = some K) := fun m p K hm hp hK => by
   by_cases e : c = m
   ·subst e; rw [hput] at hK; cases hK; exact .inl ⟨rfl, rfl⟩
   ·rw [zu _ _ _ _ e] at hm
    by_cases e2 : n = m
    ·subst e2; rw [zt] at hm; cases hm; cases hp
    ·rw [zu _ _ _ _ e2] at hm
     have hK' : φ m = some K := by unfold Nm.put at hK; rw [if_neg (Ne.symm e)] at hK; exact hK
     exact .inr ⟨Ne.symm e, Ne.symm e2, hm, hK'⟩
  rcases key a p K ha hp hK with ⟨x, y⟩ | ⟨x1, x2, x3, x4⟩ <;> rcases key d q J hd hq hJ with ⟨z, t⟩ | ⟨z1, z2, z3, z4⟩
  ·omega
  ·subst y; rw [hblk]; exact r.apart n d o q L J (Ne.symm z2) hn z3 hw hq hL z4
  ·subst t; rw [hblk]; exact r.apart a n p o K L x2 x3 hn hp hw x4 hL
  ·exact r.apart a d p q K J had x3 z3 hp hq x4 z4
 ·obtain ⟨K, h1, h2⟩ := r.glob g hg; exact ⟨K, hext _ _ h1, h2⟩
theorem Rel.kill (r : Rel ng w0 φ h w) {n : Nat} {o : AObj} (hn : MapI.get h n = some o) : Rel ng w0 φ (MapI.set h n .dead) w := by
 refine ⟨r.below, fun m p hm => ?_, fun a d p q K J had ha hd hp hq hK hJ => ?_, r.glob⟩
 ·by_cases e2 : n = m
  ·subst e2
   rw [zt] at hm; cases hm
   obtain ⟨L, hL, _⟩ := r.obj n o hn
   exact ⟨L, hL, trivial, fun h => (by cases h), fun _ h => (by cases h)⟩
  ·rw [zu _ _ _ _ e2] at hm; exact r.obj m p hm
 ·have key : ∀ m p, MapI.get (MapI.set h n .dead) m = some p -> p.writable = true -> MapI.get h m = some p := fun m p hm hp => by
   by_cases e2 : n = m
   ·subst e2; rw [zt] at hm; cases hm; cases hp
   ·rw [zu _ _ _ _ e2] at hm; exact hm
  exact r.apart a d p q K J had (key a p ha hp) (key d q hd hq) hp hq hK hJ
section
variable {α β : Type} {c c' : Nat} {h' : H} {l : List Acc}
omit [MapI H AObj]
theorem z8 {m : M H α} {f : α -> M H β} {b : β} (e : bnd m f h c = .ok b h' c' l) :
  ∃ a h1 c1 l1 l2, m h c = .ok a h1 c1 l1 /\ f a h1 c1 = .ok b h' c' l2 /\ l = l1 ++ l2 := by
 unfold bnd at e
 split at e
 ·cases e
 ·next a h1 c1 l1 hm =>
  split at e
  ·cases e
  ·next b2 h2 c2 l2 hf => cases e; exact ⟨a, h1, c1, l1, l2, hm, hf, rfl⟩
theorem z7 {a b : α} (e : (ret a : M H α) h c = .ok b h' c' l) : b = a /\ h' = h /\ c' = c /\ l = [] := by
 unfold ret at e; cases e; exact ⟨rfl, rfl, rfl, rfl⟩
theorem zY {s : String} {b : α} (e : (fail s : M H α) h c = .ok b h' c' l) : False := by unfold fail at e; cases e
theorem yH {s : String} {x : Option α} {b : α} (e : (lift s x : M H α) h c = .ok b h' c' l) : x = some b /\ h' = h /\ c' = c /\ l = [] := by
 cases x with
 | none => exact (zY (show (fail s : M H α) h c = .ok b h' c' l from e)).elim
 | some a => obtain ⟨e1, e2, e3, e4⟩ := z7 e; exact ⟨by rw [e1], e2, e3, e4⟩
end
section
variable {c c' : Nat} {h' : H} {l : List Acc}
theorem y9 {n : Nat} {o : AObj} (e : getM n h c = .ok o h' c' l) : MapI.get h n = some o /\ h' = h /\ c' = c /\ l = [.rd n] := by
 unfold getM at e; split at e
 ·next o' ho => cases e; exact ⟨ho, rfl, rfl, rfl⟩
 ·cases e
theorem ju {n : Nat} {o : AObj} {u : Unit} (e : setM n o h c = .ok u h' c' l) : (∃ p, MapI.get h n = some p) /\ h' = MapI.set h n o /\ c' = c /\ l = [.wr n] := by
 unfold setM at e; split at e
 ·next p hp => cases e; exact ⟨⟨p, hp⟩, rfl, rfl, rfl⟩
 ·cases e
theorem jF {o : AObj} {n : Nat} (e : newM o h c = .ok n h' c' l) : n = c /\ h' = MapI.set h c o /\ c' = c + 1 /\ l = [.wr c] := by
 unfold newM at e; cases e; exact ⟨rfl, rfl, rfl, rfl⟩
end
end
open Go.RowKit
structure qJ (P : Program) (cx : Cx) : Prop where
 fn : ∀ f x, cx.fn f = some x -> P.funcs[f]? = some x /\ (x.name == "runtime.NumGoroutine") = false
 ty : ∀ t i, cx.ty t = some i -> P.info? t = some i
 eqOk : ∀ t, cx.eqOk t = true -> P.stoodInHeld t = false /\ P.eqGuardType P.depth t = false
section
variable {P : Program} {cx : Cx} (hcx : qJ P cx)
include hcx
theorem jf {t : Nat} {d : TypeDesc} (h : cx.desc t = some d) : P.underlying t = some d := by
 unfold Cx.desc at h
 split at h
 ·next i hi =>
  have hP := hcx.ty _ _ hi
  split at h
  ·next s u hd =>
   split at h
   ·next j hj =>
    have hQ := hcx.ty _ _ hj
    cases h
    obtain ⟨desc, rest⟩ := i
    simp only at hd; subst hd
    simp [Program.underlying, hP, hQ]
   ·cases h
  ·next d' hd =>
   cases h
   obtain ⟨desc, rest⟩ := i
   simp only at hd
   unfold Program.underlying
   rw [hP]
   cases desc <;> first | rfl | exact absurd rfl (hd _ _)
 ·cases h
theorem gA {t k : Nat} (h : cx.size t = some k) : ∃ i, P.info? t = some i /\ i.size = k := by
 unfold Cx.size at h
 split at h
 ·next i hi => cases h; exact ⟨i, hcx.ty _ _ hi, rfl⟩
 ·cases h
theorem zero_ok {t : Nat} {z : V} (h : cx.zero t = some z) : ∃ i v, P.info? t = some i /\ i.zero = some v /\ toV v = some z := by
 unfold Cx.zero at h
 split at h
 ·next i hi =>
  split at h
  ·next v hv => exact ⟨i, v, hcx.ty _ _ hi, hv, h⟩
  ·cases h
 ·cases h
theorem jv {t : Nat} {d : TypeDesc} (h : cx.desc t = some d) (w : World) : (underlying t).run P w = .ok d w := run_underlying (jf hcx h) w
theorem j5 {t k : Nat} (h : cx.size t = some k) (w : World) : (sizeOf t).run P w = .ok k w := by
 obtain ⟨i, hi, rfl⟩ := gA hcx h
 simp [Go.sizeOf, run_typeInfo w hi]
theorem run_zero {t : Nat} {z : V} (h : cx.zero t = some z) (φ : Nm) (w : World) : ∃ v, (zeroValue t).run P w = .ok v w /\ VR φ z v := by
 obtain ⟨i, v, hi, hv, hz⟩ := zero_ok hcx h
 exact ⟨v, by simp [zeroValue, run_typeInfo w hi, hv], toV_ok hz⟩
theorem run_aggD {t : Nat} {d : TypeDesc} (h : cx.desc t = some d) (w : World) : (isAgg t).run P w = .ok (aggD d) w := by
 simp only [isAgg, Sem.run_bind, jv hcx h, Result.andThen_ok]
 cases d <;> rfl
end
theorem jO (b o n : Nat) : (⟨b, o, none⟩ : Addr).add n = ⟨b, o + n, none⟩ := by
 unfold Addr.add; split
 ·next h => subst h; rfl
 ·rfl
theorem cell_at {w : World} {b : Nat} {C : Array Value} {e : TypeId} {fr : Nat × Nat} (h : w.heap[b]? = some (.cells C e fr)) (i : Nat) :
  w.cell? ⟨b, i, none⟩ = C[i]? := by simp [World.cell?, h]
theorem frozen_at {w : World} {b : Nat} {C : Array Value} {e : TypeId} {fr : Nat × Nat} (h : w.heap[b]? = some (.cells C e fr)) (i : Nat) :
  w.frozen? ⟨b, i, none⟩ = (decide (fr.1 <= i) && decide (i < fr.2)) := by simp [World.frozen?, h]
theorem setCell_at {w : World} {b : Nat} {C : Array Value} {e : TypeId} {fr : Nat × Nat} (h : w.heap[b]? = some (.cells C e fr)) (i : Nat) (v : Value) :
  w.setCell ⟨b, i, none⟩ v = World.setBlk w b (.cells (C.setIfInBounds i v) e fr) := by
 unfold World.setCell World.setBlk
 congr 1
 apply Array.ext_getElem?
 intro k
 obtain ⟨hlt, hget⟩ := Array.getElem?_eq_some_iff.1 h
 by_cases hk : b = k
 ·subst hk
  simp [Array.getElem_modify, hlt, hget]
 ·simp [Array.getElem?_modify, hk]
def qA : Array Value -> Nat -> List Value -> Array Value
 | C, _, [] => C
 | C, p, u :: us => qA (C.setIfInBounds p u) (p + 1) us
theorem gR : ∀ (us : List Value) (C : Array Value) (p : Nat), (qA C p us).size = C.size
 | [], _, _ => rfl
 | u :: us, C, p => by simp [qA, gR us]
theorem gG : ∀ (us : List Value) (C : Array Value) (p i : Nat), p + us.length <= C.size ->
  (qA C p us)[i]? = if p <= i /\ i < p + us.length then us[i - p]? else C[i]?
 | [], C, p, i, _ => by simp only [qA, List.length_nil]; rw [if_neg (by omega)]
 | u :: us, C, p, i, h => by
  simp only [List.length_cons] at h
  rw [qA, gG us _ _ _ (by simp; omega)]
  by_cases h1 : p + 1 <= i /\ i < p + 1 + us.length
  ·rw [if_pos h1, if_pos (by simp only [List.length_cons]; omega)]
   obtain ⟨j, rfl⟩ : ∃ j, i = p + 1 + j := ⟨i - (p + 1), by omega⟩
   rw [show p + 1 + j - (p + 1) = j by omega, show p + 1 + j - p = j + 1 by omega]; simp
  ·rw [if_neg h1]
   by_cases h2 : i = p
   ·subst h2
    rw [if_pos (by simp only [List.length_cons]; omega)]
    rw [Array.getElem?_setIfInBounds]; simp; omega
   ·rw [if_neg (by simp only [List.length_cons]; omega), Array.getElem?_setIfInBounds, if_neg (Ne.symm h2)]
theorem setBlk_setBlk (w : World) (b : Nat) (x y : Obj) : World.setBlk (World.setBlk w b x) b y = World.setBlk w b y := by
 unfold World.setBlk; simp
theorem heap_setBlk {w : World} {b : Nat} {x : Obj} (y : Obj) (h : w.heap[b]? = some x) : (World.setBlk w b y).heap[b]? = some y := by
 obtain ⟨hlt, _⟩ := Array.getElem?_eq_some_iff.1 h
 simp [World.setBlk, hlt]
theorem setBlk_same {w : World} {b : Nat} {x : Obj} (h : w.heap[b]? = some x) : World.setBlk w b x = w := by
 obtain ⟨hlt, hg⟩ := Array.getElem?_eq_some_iff.1 h
 unfold World.setBlk
 have : w.heap.setIfInBounds b x = w.heap := by
  apply Array.ext_getElem?; intro k
  by_cases hk : b = k
  ·subst hk; simp [hlt, hg]
  ·simp [hk]
 rw [this]
theorem qi {P : Program} {b : Nat} {e : TypeId} {fr : Nat × Nat} (p : Nat) : ∀ (us : List Value) (i : Nat) (w : World) (C : Array Value),
  w.heap[b]? = some (.cells C e fr) -> p + i + us.length <= C.size -> (∀ u ∈ us, u.oneCell' = true) ->
  (∀ j, p + i <= j -> j < p + i + us.length -> ¬ (fr.1 <= j /\ j < fr.2)) ->
  (storeCells ⟨b, p, none⟩ us i).run P w = .ok () (World.setBlk w b (.cells (qA C (p + i) us) e fr))
 | [], i, w, C, h, _, _, _ => by simp [storeCells, qA, setBlk_same h]
 | u :: us, i, w, C, h, hs, h1, hf => by
  simp only [List.length_cons] at hs hf
  have hlt : p + i < C.size := by omega
  have hcell : w.cell? ⟨b, p + i, none⟩ = some C[p + i] := by rw [cell_at h]; simp [hlt]
  have hfr : w.frozen? ⟨b, p + i, none⟩ = false := by
   rw [frozen_at h]
   have := hf (p + i) (by omega) (by omega)
   cases hh : (decide (fr.1 <= p + i) && decide (p + i < fr.2))
   ·rfl
   ·simp at hh; exact absurd hh this
  simp only [storeCells, Sem.run_bind, jO, run_store P w _ u .plain (h1 u (by simp)), hcell, hfr, Bool.false_eq_true, if_false, Result.andThen_ok]
  rw [setCell_at h]
  have ih := qi (P := P) p us (i + 1) (World.setBlk w b (.cells (C.setIfInBounds (p + i) u) e fr)) (C.setIfInBounds (p + i) u) (heap_setBlk _ h) (by simp; omega)
   (fun x hx => h1 x (by simp [hx])) (fun j hj1 hj2 => hf j (by omega) (by omega))
  rw [ih, setBlk_setBlk]
  simp [qA, Nat.add_assoc]
theorem ovr_length {α : Type} : ∀ (cs vs : List α), (ovr cs vs).length = cs.length
 | [], [] => rfl
 | [], _ :: _ => rfl
 | _ :: _, [] => rfl
 | _ :: cs, _ :: vs => by simp [ovr, ovr_length cs vs]
theorem kx {α : Type} : ∀ (cs : List α) (o : Nat) (vs : List α), (yu cs o vs).length = cs.length
 | cs, 0, vs => by cases cs <;> simp [yu, ovr_length]
 | [], _ + 1, _ => rfl
 | _ :: cs, o + 1, vs => by simp [yu, kx cs o vs]
theorem ovr_get {α : Type} : ∀ (cs vs : List α) (i : Nat), vs.length <= cs.length -> (ovr cs vs)[i]? = if i < vs.length then vs[i]? else cs[i]?
 | [], [], i, _ => by simp [ovr]
 | [], _ :: _, _, h => by simp at h
 | c :: cs, [], i, _ => by simp [ovr]
 | c :: cs, v :: vs, 0, _ => by simp [ovr]
 | c :: cs, v :: vs, i + 1, h => by simp [ovr, ovr_get cs vs i (by simpa using h)]
theorem setAll_get {α : Type} : ∀ (cs : List α) (o : Nat) (vs : List α) (i : Nat), o + vs.length <= cs.length ->
  (yu cs o vs)[i]? = if o <= i /\ i < o + vs.length then vs[i - o]? else cs[i]?
 | cs, 0, vs, i, h => by
  have e : yu cs 0 vs = ovr cs vs := by cases cs <;> rfl
  rw [e, ovr_get _ _ _ (by omega)]; simp
 | [], o + 1, vs, i, h => by simp at h
 | c :: cs, o + 1, vs, 0, h => by simp [yu]
 | c :: cs, o + 1, vs, i + 1, h => by
  simp only [yu, List.getElem?_cons_succ]
  rw [setAll_get cs o vs i (by simp at h; omega)]
  by_cases hh : o <= i /\ i < o + vs.length
  ·rw [if_pos hh, if_pos (by omega), show i + 1 - (o + 1) = i - o by omega]
  ·rw [if_neg hh, if_neg (by omega)]
theorem one1_ok {φ : Nm} {v : V} {u : Value} (h : VR φ v u) (h1 : jR v = true) : u.oneCell' = true := by
 cases h <;> first | rfl | (simp [jR] at h1)
theorem ones_ok {φ : Nm} : ∀ {vs : List V} {us : List Value}, VRs φ vs us -> vs.all jR = true -> ∀ u ∈ us, u.oneCell' = true
 | _, _, .nil, _ => by simp
 | _, _, .cons a b, h => by
  simp only [List.all_cons, Bool.and_eq_true] at h
  intro u hu
  rcases zl hu with rfl | hu
  ·exact one1_ok a h.1
  ·exact ones_ok b h.2 u hu
section
variable {H : Type} [MapI H AObj] {P : Program} {ng : Nat} {w0 w : World} {φ : Nm} {h h' : H} {c c' : Nat} {l : List Acc}
theorem kw {α : Type} {cs vs : List α} {o k : Nat} (h : cut cs o k = some vs) : o + k <= cs.length /\ vs.length = k /\ ∀ j, j < k -> vs[j]? = cs[o + j]? := by
 unfold cut at h; split at h
 ·next hl =>
  cases h
  refine ⟨hl, by simp; omega, fun j hj => ?_⟩
  simp [hj]
 ·cases h
theorem cells_of (r : Rel ng w0 φ h w) {n : Nat} {rw cl : Bool} {cs vs : List V} {L : Loc} (hn : MapI.get h n = some (.cells rw cl cs)) (hL : φ n = some L) {o k : Nat} (hc : cut cs o k = some vs) :
  ∃ us, us.length = k /\ VRs φ vs us /\ ∀ j u, us[j]? = some u -> w.cell? ⟨L.blk, L.off + o + j, none⟩ = some u := by
 obtain ⟨K, hK, ho, _⟩ := r.obj n _ hn
 rw [hL] at hK; cases hK
 obtain ⟨C, e, fr, hb, hlen, hlim, hg, _⟩ := ho
 obtain ⟨hle, hvl, hvg⟩ := kw hc
 refine ⟨(C.toList.drop (L.off + o)).take k, by simp; omega, ?_, ?_⟩
 ·refine gT (by simp; omega) fun i v hv => ?_
  have hi : i < k := by
   rcases Nat.lt_or_ge i k with h | h
   ·exact h
   ·rw [List.getElem?_eq_none (by omega)] at hv; cases hv
  rw [hvg i hi] at hv
  obtain ⟨u, h1, h2⟩ := hg _ _ hv
  refine ⟨u, ?_, h2⟩
  rw [List.getElem?_take, if_pos hi, List.getElem?_drop, Array.getElem?_toList, <- h1]
  congr 1; omega
 ·intro j u hu
  have hj : j < k := by
   rcases Nat.lt_or_ge j k with h | h
   ·exact h
   ·rw [List.getElem?_eq_none (by simp; omega)] at hu; cases hu
  rw [cell_at hb]
  rw [List.getElem?_take, if_pos hj, List.getElem?_drop, Array.getElem?_toList] at hu
  exact hu
theorem loadC_ok (r : Rel ng w0 φ h w) {n o k : Nat} {vs : List V} (e : loadC n o k h c = .ok vs h' c' l) :
  h' = h /\ c' = c /\ vs.length = k /\ ∃ L us, φ n = some L /\ us.length = k /\ VRs φ vs us /\ (loadCells ⟨L.blk, L.off + o, none⟩ k).run P w = .ok us.toArray w /\
   (∀ j u, us[j]? = some u -> w.cell? ⟨L.blk, L.off + o + j, none⟩ = some u) := by
 unfold loadC at e
 obtain ⟨ob, h1, c1, l1, l2, e1, e2, _⟩ := z8 e
 obtain ⟨hn, rfl, rfl, _⟩ := y9 e1
 cases ob with
 | cells rw cl cs =>
  obtain ⟨hc, rfl, rfl, _⟩ := yH e2
  obtain ⟨L, hL, _⟩ := r.obj n _ hn
  obtain ⟨us, hlen, hv, hcell⟩ := cells_of r hn hL hc
  refine ⟨rfl, rfl, (kw hc).2.1, L, us, hL, hlen, hv, ?_, hcell⟩
  have := run_loadCells_list (P := P) w ⟨L.blk, L.off + o, none⟩ us (fun j u hu => by rw [jO]; exact hcell j u hu)
  rw [hlen] at this; exact this
 | map _ _ _ => exact (zY e2).elim
 | siter _ _ => exact (zY e2).elim
 | miter _ _ _ _ => exact (zY e2).elim
 | loop _ _ _ _ _ _ _ => exact (zY e2).elim
 | defs => exact (zY e2).elim
 | spent => exact (zY e2).elim
 | dead => exact (zY e2).elim
theorem ObjR.stored {cs vs : List V} {us : List Value} {L : Loc} {C : Array Value} {e : TypeId} {fr : Nat × Nat} {cl : Bool} {o : Nat}
  (ho : ObjR φ (.cells true cl cs) L (some (.cells C e fr))) (hle : o + vs.length <= cs.length) (hv : VRs φ vs us) :
  ObjR φ (.cells true cl (yu cs o vs)) L (some (.cells (qA C (L.off + o) us) e fr)) := by
 obtain ⟨C', e', fr', hb, hlen, hlim, hg, hfz, hcl⟩ := ho
 cases hb
 have hl := hv.length
 refine ⟨_, _, _, rfl, by rw [kx]; exact hlen, by rw [gR]; exact hlim, fun i v hi => ?_, hfz, hcl⟩
 rw [setAll_get _ _ _ _ hle] at hi
 rw [gG _ _ _ _ (by omega)]
 by_cases hh : o <= i /\ i < o + vs.length
 ·rw [if_pos hh] at hi
  obtain ⟨u, h1, h2⟩ := hv.get hi
  exact ⟨u, by rw [if_pos (by omega), show L.off + i - (L.off + o) = i - o by omega]; exact h1, h2⟩
 ·rw [if_neg hh] at hi
  obtain ⟨u, h1, h2⟩ := hg _ _ hi
  exact ⟨u, by rw [if_neg (by omega)]; exact h1, h2⟩
theorem storeC_ok (r : Rel ng w0 φ h w) {n o : Nat} {vs : List V} {us : List Value} {u : Unit} (hv : VRs φ vs us) (e : storeC n o vs h c = .ok u h' c' l) :
  c' = c /\ ∃ L w', φ n = some L /\ (storeCells ⟨L.blk, L.off + o, none⟩ us).run P w = .ok () w' /\ Rel ng w0 φ h' w' := by
 unfold storeC at e
 obtain ⟨ob, h1, c1, l1, l2, e1, e2, _⟩ := z8 e
 obtain ⟨hn, rfl, rfl, _⟩ := y9 e1
 split at e2
 ·next cl cs =>
  split at e2
  ·next hle =>
   split at e2
   ·next h1c =>
    obtain ⟨_, rfl, rfl, _⟩ := ju e2
    obtain ⟨L, hL, ho, _⟩ := r.obj n _ hn
    have ho' := ho
    obtain ⟨C, e, fr, hb, hlen, hlim, hg, hfz, hcl⟩ := ho'
    rw [hb] at ho
    have hl := hv.length
    refine ⟨rfl, L, World.setBlk w L.blk (.cells (qA C (L.off + o) us) e fr), hL, ?_, ?_⟩
    ·exact qi (L.off + o) us 0 w C hb (by omega) (ones_ok hv h1c) (fun j hj1 hj2 => hfz rfl j (by omega) (by omega))
    ·exact r.setBlk hn rfl hL rfl (ho.stored hle hv)
   ·exact (zY e2).elim
  ·exact (zY e2).elim
 ·exact (zY e2).elim
theorem VR.cells {v : V} {u : Value} (h : VR φ v u) : VRs φ (yR v) u.cells.toList := by
 cases h <;> first | (rename_i a; exact a) | (exact VRs.single (by constructor <;> assumption))
variable {cx : Cx} (hcx : qJ P cx)
include hcx
theorem loadT_ok (r : Rel ng w0 φ h w) {t n o : Nat} {v : V} (e : loadT cx t n o h c = .ok v h' c' l) :
  h' = h /\ c' = c /\ ∃ L u, φ n = some L /\ VR φ v u /\ (loadVar t ⟨L.blk, L.off + o, none⟩).run P w = .ok u w := by
 unfold loadT at e
 cases hd : cx.desc t with
 | none => simp only [hd] at e; exact (zY e).elim
 | some d =>
  simp only [hd] at e
  by_cases ha : aggD d = true
  ·rw [if_pos ha] at e
   obtain ⟨k, h1, c1, l1, l2, e1, e2, _⟩ := z8 e
   obtain ⟨hk, rfl, rfl, _⟩ := yH e1
   obtain ⟨cs, h2, c2, l3, l4, e3, e4, _⟩ := z8 e2
   obtain ⟨rfl, rfl, _, L, us, hL, hul, hv, hrun, _⟩ := loadC_ok (P := P) r e3
   obtain ⟨rfl, rfl, rfl, _⟩ := z7 e4
   refine ⟨rfl, rfl, L, .agg ⟨us⟩, hL, .agg hv, ?_⟩
   simp only [loadVar, Sem.run_bind, run_aggD hcx hd, ha, Result.andThen_ok, if_true, j5 hcx hk, hrun, Sem.run_pure]
  ·rw [if_neg ha] at e
   obtain ⟨cs, h2, c2, l3, l4, e3, e4, _⟩ := z8 e
   obtain ⟨rfl, rfl, hl1, L, us, hL, hul, hv, hrun, hcell⟩ := loadC_ok (P := P) r e3
   cases hv with
   | nil => exact (zY e4).elim
   | cons a b =>
    cases b with
    | nil =>
     obtain ⟨rfl, rfl, rfl, _⟩ := z7 e4
     refine ⟨rfl, rfl, L, _, hL, a, ?_⟩
     have := hcell 0 _ (by simp; rfl)
     simp only [loadVar, Sem.run_bind, run_aggD hcx hd, Result.andThen_ok, ha, Bool.false_eq_true, if_false, run_load]
     rw [show L.off + o + 0 = L.off + o from rfl] at this
     rw [this]
    | cons _ _ => exact (zY e4).elim
theorem storeT_ok (r : Rel ng w0 φ h w) {t n o : Nat} {v : V} {u : Value} {x : Unit} (hv : VR φ v u) (e : storeT cx t n o v h c = .ok x h' c' l) :
  c' = c /\ ∃ L w', φ n = some L /\ (storeVar t ⟨L.blk, L.off + o, none⟩ u).run P w = .ok () w' /\ Rel ng w0 φ h' w' := by
 unfold storeT at e
 cases hk : cx.size t with
 | none => simp only [hk] at e; exact (zY e).elim
 | some k =>
  simp only [hk] at e
  by_cases hl : (yR v).length = k
  ·rw [if_pos hl] at e
   have hc := hv.cells
   obtain ⟨hc1, L, w', hL, hrun, hr⟩ := storeC_ok (P := P) r hc e
   refine ⟨hc1, L, w', hL, ?_, hr⟩
   have : u.cells.size = k := by rw [<- hl, hc.length]; simp
   simp only [storeVar, Sem.run_bind, j5 hcx hk, Result.andThen_ok, this, ne_eq, not_true_eq_false, if_false, hrun]
  ·rw [if_neg hl] at e; exact (zY e).elim
end
open Go.RowKit
theorem u8_beq (a b : UInt8) : Nat.beq a.toNat b.toNat = (a == b) := by
 rw [Bool.eq_iff_iff, Nat.beq_eq, beq_iff_eq]
 exact ⟨fun h => UInt8.toNat_inj.1 h, fun h => by rw [h]⟩
theorem strEq_ok : ∀ (x y : List UInt8), strEq x y = (x == y)
 | [], [] => rfl
 | [], _ :: _ => rfl
 | _ :: _, [] => rfl
 | a :: x, b :: y => by
  have e : (a :: x == b :: y) = ((a == b) && (x == y)) := rfl
  rw [strEq, strEq_ok x y, u8_beq, e]
theorem strLt_ok : ∀ (x y : List UInt8), strLt x y = Op.bytesLess x y
 | _, [] => by unfold strLt Op.bytesLess; rfl
 | [], _ :: _ => rfl
 | a :: x, b :: y => by
  have e : Nat.blt a.toNat b.toNat = decide (a < b) := by
   rw [Bool.eq_iff_iff, decide_eq_true_iff, UInt8.lt_iff_toNat_lt]
   simp [Nat.blt_eq]
  rw [strLt, strLt_ok x y, u8_beq, e, Op.bytesLess]
theorem str_list (s : List UInt8) : (⟨⟨s⟩⟩ : ByteArray).toList = s := by rw [ByteArray.toList_eq]
section
variable {H : Type} [MapI H AObj] {P : Program} {ng : Nat} {w0 w : World} {φ : Nm} {h h' : H} {c c' : Nat} {l : List Acc}
theorem intBin_ok {op : BinOp} {k : IntKind} {x y : Int} {v : V} {t : Nat} (hs : op ≠ .shl /\ op ≠ .shr) (h : intBin op k x y = some v) :
  ∃ u, VR φ v u /\ (binOp op t (.int k x) (.int k y)).run P w = .ok u w := by
 cases op <;> simp only [intBin, Option.some.injEq] at h
 case quo =>
  split at h
  ·cases h
  ·next hy => cases h; exact ⟨_, .int _ _, by simp [binOp, Op.intDiv, hy]⟩
 case rem =>
  split at h
  ·cases h
  ·next hy => cases h; exact ⟨_, .int _ _, by simp [binOp, Op.intDiv, hy]⟩
 case shl => exact absurd rfl hs.1
 case shr => exact absurd rfl hs.2
 all_goals first
  | (subst h; exact ⟨_, .int _ _, by simp [binOp, Op.intArith, Op.intBits]⟩)
  | (subst h; exact ⟨_, .bool _, by simp [binOp, Op.intCmp]⟩)
  | (cases h; done)
theorem shiftBin_ok {op : BinOp} {k yk : IntKind} {x y : Int} {v : V} {t : Nat} (hs : op = .shl \/ op = .shr) (h : kB op k x y = some v) :
  ∃ u, VR φ v u /\ (binOp op t (.int k x) (.int yk y)).run P w = .ok u w := by
 unfold kB at h
 split at h
 ·cases h
 ·next hy =>
  rcases hs with rfl | rfl
  ·cases h; exact ⟨_, .int _ _, by simp [binOp, Op.shift, hy]⟩
  ·cases h; exact ⟨_, .int _ _, by simp [binOp, Op.shift, hy]⟩
theorem strBin_ok {op : BinOp} {x y : List UInt8} {v : V} {t : Nat} (h : strBin op x y = some v) :
  ∃ u, VR φ v u /\ (binOp op t (.string ⟨⟨x⟩⟩) (.string ⟨⟨y⟩⟩)).run P w = .ok u w := by
 cases op <;> simp only [strBin, Option.some.injEq] at h
 case add =>
  split at h
  ·next hl =>
   cases h
   refine ⟨.string ⟨⟨x ++ y⟩⟩, .str _, ?_⟩
   have e1 : (⟨⟨x⟩⟩ : ByteArray).size = x.length := rfl
   have e2 : (⟨⟨y⟩⟩ : ByteArray).size = y.length := rfl
   have e3 : ¬ ((x.length + y.length : Nat) : Int) > IntKind.i64.max := by
    have : IntKind.i64.max = 9223372036854775807 := by rfl
    omega
   have e4 : (⟨⟨x⟩⟩ : ByteArray) ++ ⟨⟨y⟩⟩ = ⟨⟨x ++ y⟩⟩ := by
    apply ByteArray.ext; rw [ByteArray.data_append]; simp
   simp only [binOp, Op.stringOp, e1, e2, Sem.run_ite]
   rw [if_neg e3, e4]; rfl
  ·cases h
 case shl => cases h
 case shr => cases h
 all_goals first
  | (cases h; done)
  | (subst h; exact ⟨_, .bool _, by simp [binOp, Op.stringOp, strEq_ok, strLt_ok]⟩)
variable {cx : Cx} (hcx : qJ P cx)
include hcx
theorem fieldsOf_ok {t : Nat} {fs : Array Field} (h : cx.desc t = some (.struct fs)) : P.fieldsOf t = fs := by
 simp [Program.fieldsOf, jf hcx h]
theorem partV_ok {t off : Nat} {cs : List V} {us : List Value} {v : V} (hv : VRs φ cs us) (h : partV cx t cs off = some v) :
  ∃ u, VR φ v u /\ (part t ⟨us⟩ off).run P w = .ok u w := by
 unfold partV at h
 cases hd : cx.desc t with
 | none => simp only [hd] at h; cases h
 | some d =>
  simp only [hd] at h
  by_cases ha : aggD d = true
  ·rw [if_pos ha] at h
   cases hk : cx.size t with
   | none => simp only [hk] at h; cases h
   | some k =>
    simp only [hk, Option.map_eq_some_iff] at h
    obtain ⟨xs, hc, rfl⟩ := h
    obtain ⟨hle, hl, hg⟩ := kw hc
    have hlen := hv.length
    refine ⟨.agg ⟨(us.drop off).take k⟩, .agg (gT (by simp; omega) fun i v hi => ?_), ?_⟩
    ·have hik : i < k := by
      rcases Nat.lt_or_ge i k with h | h
      ·exact h
      ·rw [List.getElem?_eq_none (by omega)] at hi; cases hi
     rw [hg i hik] at hi
     obtain ⟨u, h1, h2⟩ := hv.get hi
     exact ⟨u, by rw [List.getElem?_take, if_pos hik, List.getElem?_drop]; exact h1, h2⟩
    ·simp only [part, Sem.run_bind, run_aggD hcx hd, ha, Result.andThen_ok, if_true, j5 hcx hk, Sem.run_pure]
     congr 3
     apply Array.ext'
     rw [Array.toList_extract]
     simp [List.extract, Nat.add_sub_cancel_left]
  ·rw [if_neg ha] at h
   rw [qL] at h
   obtain ⟨u, h1, h2⟩ := hv.get h
   refine ⟨u, h2, ?_⟩
   have e : (⟨us⟩ : Array Value)[off]? = some u := by simpa using h1
   simp only [part, Sem.run_bind, run_aggD hcx hd, Result.andThen_ok, ha, Bool.false_eq_true, if_false, e, Sem.run_pure]
mutual
theorem eqV_ok : ∀ (f d t : Nat) (x y : V) (x' y' : Value) (b : Bool), f <= d -> VR φ x x' -> VR φ y y' -> eqV cx f t x y = some b -> (Op.equalIn d t x' y').run P w = .ok b w
 | 0, _, _, _, _, _, _, _, _, _, _, h => by unfold eqV at h; cases h
 | f + 1, d, t, x, y, x', y', b, hd, hx, hy, h => by
  obtain ⟨d, rfl⟩ : ∃ e, d = e + 1 := ⟨d - 1, by omega⟩
  unfold eqV at h
  cases ht : cx.desc t with
  | none => simp only [ht] at h; cases h
  | some td =>
   have hu := jf hcx ht
   simp only [ht] at h
   split at h
   ·next ee => cases ee; cases hx; cases hy; cases h; simp [Op.equalIn, run_underlying hu]
   ·next ee =>
    cases ee; cases hx; cases hy
    split at h
    ·next hk => subst hk; cases h; simp [Op.equalIn, run_underlying hu]
    ·cases h
   ·next ee => cases ee; cases hx; cases hy; cases h; rw [run_equalIn_string _ _ _ _ _ hu, str_list, str_list, strEq_ok]
   ·next ee => cases ee; cases hx; cases hy; cases h; simp [Op.equalIn, run_underlying hu]
   ·next ee => cases ee; cases hx; cases hy; cases h; simp [Op.equalIn, run_underlying hu]
   ·next ee =>
    cases ee; cases hx with | iface _ a => ?_
    cases hy with | iface _ a' => ?_
    split at h
    ·next hne => cases h; simp [Op.equalIn, run_underlying hu, hne]
    ·next hne =>
     simp only [ne_eq, Decidable.not_not] at hne; subst hne
     split at h
     ·next i hi =>
      split at h
      ·next hc =>
       have := eqV_ok f d _ _ _ _ _ b (by omega) a a' h
       simp [Op.equalIn, run_underlying hu, run_typeInfo w (hcx.ty _ _ hi), hc, this]
      ·cases h
     ·cases h
   ·next fields xs ys ee =>
    cases ee; cases hx with | agg a => ?_
    cases hy with | agg a' => ?_
    split at h
    ·next he =>
     have hf := fieldsOf_ok hcx ht
     rw [run_equalIn_struct w d t _ _ (by rw [hf]; exact hu) (hcx.eqOk _ he).1, hf]
     exact eqFs_ok f d fields.toList xs ys _ _ b (by omega) a a' h
    ·cases h
   ·cases h
theorem eqFs_ok : ∀ (f d : Nat) (fs : List Field) (xs ys : List V) (us vs : List Value) (b : Bool), f <= d -> VRs φ xs us -> VRs φ ys vs -> eqFs cx f fs xs ys = some b ->
  (Op.eqFields d ⟨us⟩ ⟨vs⟩ fs).run P w = .ok b w
 | f, d, [], _, _, _, _, b, _, _, _, h => by
  have : b = true := by cases f <;> (unfold eqFs at h; cases h; rfl)
  subst this; simp [Op.eqFields]
 | 0, _, _ :: _, _, _, _, _, _, _, _, _, h => by unfold eqFs at h; cases h
 | f + 1, d, g :: gs, xs, ys, us, vs, b, hd, hx, hy, h => by
  unfold eqFs at h
  split at h
  ·cases h
  ·next hn =>
   split at h
   ·next a a' h1 h2 =>
    obtain ⟨u1, hu1, hr1⟩ := partV_ok (P := P) (w := w) hcx hx h1
    obtain ⟨u2, hu2, hr2⟩ := partV_ok (P := P) (w := w) hcx hy h2
    split at h
    ·next h3 =>
     have e1 := eqV_ok f d _ _ _ _ _ true (by omega) hu1 hu2 h3
     have e2 := eqFs_ok f d gs xs ys us vs b (by omega) hx hy h
     simp only [Op.eqFields, ne_eq, hn, not_false_eq_true, if_true, Sem.run_bind, hr1, hr2, e1, Result.andThen_ok, Bool.not_true, Bool.false_eq_true, if_false, e2]
    ·next r h3 =>
     have hb : b = false := by
      cases b
      ·rfl
      ·exact absurd h h3
     subst hb
     have e1 := eqV_ok f d _ _ _ _ _ false (by omega) hu1 hu2 h
     simp only [Op.eqFields, ne_eq, hn, not_false_eq_true, if_true, Sem.run_bind, hr1, hr2, e1, Result.andThen_ok, Bool.not_false, Sem.run_pure]
   ·cases h
end
theorem fieldV_ok {s f : Nat} {x v : V} {u : Value} (hx : VR φ x u) (h : fieldV cx s x f = some v) : ∃ u', VR φ v u' /\ (Instr.field s u f).run P w = .ok u' w := by
 unfold fieldV at h
 cases ht : cx.desc s with
 | none => simp only [ht] at h; cases h
 | some td =>
  simp only [ht] at h
  split at h
  ·next fields cs ee =>
   cases ee; cases hx with | agg a => ?_
   split at h
   ·next d hd =>
    rw [qL] at hd
    obtain ⟨u', h1, h2⟩ := partV_ok (P := P) (w := w) hcx a h
    refine ⟨u', h1, ?_⟩
    have e : fields[f]? = some d := by rw [<- Array.getElem?_toList]; exact hd
    simp only [Instr.field, Sem.run_bind, jv hcx ht, Result.andThen_ok, e, asAgg, Sem.run_pure, h2]
   ·cases h
  ·cases h
theorem fieldAddrV_ok {s f : Nat} {x v : V} {u : Value} (hx : VR φ x u) (h : fieldAddrV cx s x f = some v) : ∃ u', VR φ v u' /\ (Instr.fieldAt s u f).run P w = .ok u' w := by
 unfold fieldAddrV at h
 cases ht : cx.desc s with
 | none => simp only [ht] at h; cases h
 | some td =>
  simp only [ht] at h
  split at h
  ·next fields n o ee =>
   cases ee; cases hx with | ptr _ hL => ?_
   rename_i L
   split at h
   ·next d hd =>
    rw [qL] at hd
    split at h
    ·next k hk =>
     cases h
     refine ⟨.pointer (some ⟨L.blk, L.off + (o + d.offset), none⟩), .ptr _ hL, ?_⟩
     have e : fields[f]? = some d := by rw [<- Array.getElem?_toList]; exact hd
     simp only [Instr.fieldAt, Sem.run_bind, jv hcx ht, Result.andThen_ok, e, Instr.sureAddr, Sem.run_pure, fieldPlace, j5 hcx hk, Nat.add_one_ne_zero, if_false, jO, Nat.add_assoc]
    ·cases h
   ·cases h
  ·cases h
theorem indexV_ok {t : Nat} {x i v : V} {u q : Value} (hx : VR φ x u) (hi : VR φ i q) (h : indexV cx t x i = some v) : ∃ u', VR φ v u' /\ (Instr.index t u q).run P w = .ok u' w := by
 unfold indexV at h
 cases ht : cx.desc t with
 | none => simp only [ht] at h; cases h
 | some td =>
  simp only [ht] at h
  split at h
  ·next len e cs k i ee =>
   cases ee; cases hx with | agg a => ?_
   cases hi
   split at h
   ·next hb =>
    split at h
    ·next sz hsz =>
     obtain ⟨u', h1, h2⟩ := partV_ok (P := P) (w := w) hcx a h
     refine ⟨u', h1, ?_⟩
     simp only [Instr.index, asIntOf, Sem.run_bind, Sem.run_pure, Result.andThen_ok, jv hcx ht, hb, and_self, if_true, j5 hcx hsz, h2]
    ·cases h
   ·cases h
  ·next s k i ee =>
   cases ee; cases hx; cases hi
   split at h
   ·next hb =>
    split at h
    ·next b hn =>
     cases h
     rw [qL] at hn
     refine ⟨_, .int _ _, ?_⟩
     have e : (⟨⟨s⟩⟩ : ByteArray)[i.toNat]? = some b := by
      obtain ⟨hlt, hg⟩ := zj hn
      have hlt' : i.toNat < (⟨⟨s⟩⟩ : ByteArray).size := hlt
      rw [getElem?_pos (⟨⟨s⟩⟩ : ByteArray) i.toNat hlt']
      exact congrArg some hg
     simp only [Instr.index, asIntOf, Sem.run_bind, Sem.run_pure, Result.andThen_ok, jv hcx ht, hb, if_true, e]
    ·cases h
   ·cases h
  ·cases h
end
open Go.RowKit
section
variable {H : Type} [MapI H AObj] {P : Program} {ng : Nat} {w0 w : World} {φ : Nm} {h h' : H} {c c' : Nat} {l : List Acc}
def Done (P : Program) (ng : Nat) (w0 : World) (φ : Nm) (c c' : Nat) (h' : H) (w : World) (v : V) (s : Sem Value) : Prop :=
 ∃ φ' u w', Ext φ φ' c c' /\ c <= c' /\ Rel ng w0 φ' h' w' /\ VR φ' v u /\ s.run P w = .ok u w'
theorem j7 {v : V} {u : Value} {s : Sem Value} (r : Rel ng w0 φ h w) (hv : VR φ v u) (hs : s.run P w = .ok u w) : Done P ng w0 φ c c h w v s :=
 ⟨φ, u, w, Ext.refl _ _ _, Nat.le_refl _, r, hv, hs⟩
def Fresh (φ : Nm) (c c' : Nat) : Prop := ∀ n, c <= n -> n < c' -> φ n = none
theorem Rel.newRow (r : Rel ng w0 φ h w) {vs : List V} {C : Array Value} {e : TypeId} {fr : Nat × Nat} {cl : Bool} (hc : φ c = none) (hlen : vs.length <= C.size)
  (hv : ∀ (i : Nat) v, vs[i]? = some v -> ∃ u, C[i]? = some u /\ VR φ v u) (hfr : ∀ j, j < C.size -> ¬ (fr.1 <= j /\ j < fr.2)) (hcl : cl = true -> fr = (0, 0)) :
  Rel ng w0 (φ.put c ⟨w.heap.size, 0, C.size⟩) (MapI.set h c (.cells true cl vs)) (w.alloc (.cells C e fr)) := by
 refine r.alloc hc rfl rfl ⟨C, e, fr, rfl, by simpa using hlen, Nat.le_refl _, fun i v hi => ?_, fun _ j _ hj => hfr j hj, fun h => ⟨hcl h, rfl⟩⟩
 obtain ⟨u, h1, h2⟩ := hv i v hi
 exact ⟨u, by simpa using h1, h2.mono (Ext.put _ hc).mono⟩
theorem Rel.newCells (r : Rel ng w0 φ h w) {vs : List V} {us : List Value} {e : TypeId} (hc : φ c = none) (hv : VRs φ vs us) :
  Rel ng w0 (φ.put c ⟨w.heap.size, 0, us.length⟩) (MapI.set h c (.cells true true vs)) (w.alloc (.cells ⟨us⟩ e)) :=
 r.newRow (C := ⟨us⟩) (cl := true) hc (by simp [hv.length]) (fun i v hi => by obtain ⟨u, h1, h2⟩ := hv.get hi; exact ⟨u, by simpa using h1, h2⟩) (fun j _ => by simp) (fun _ => rfl)
theorem j1 {φ : Nm} {n : Nat} {L : Loc} : (φ.put n L) n = some L := by simp [Nm.put]
theorem foldl_put : ∀ (vs : List Value) (k off : Nat) (C : Array Value), (vs.zipIdx k).foldl (fun cs (x : Value × Nat) => cs.setIfInBounds (off + x.2) x.1) C = qA C (off + k) vs
 | [], _, _, _ => rfl
 | v :: vs, k, off, C => by simp only [List.zipIdx_cons, List.foldl_cons, qA]; rw [foldl_put vs (k + 1) off]; rfl
theorem VRs.put {cs vs : List V} {us ws : List Value} {o : Nat} (h1 : VRs φ cs us) (h2 : VRs φ vs ws) (hle : o + vs.length <= cs.length) :
  VRs φ (yu cs o vs) (qA ⟨us⟩ o ws).toList := by
 have l1 := h1.length; have l2 := h2.length
 have l3 : (qA ⟨us⟩ o ws).toList.length = us.length := by rw [Array.length_toList, gR]; rfl
 refine gT (by rw [kx, l3]; exact l1) fun i v hi => ?_
 rw [setAll_get _ _ _ _ hle] at hi
 rw [Array.getElem?_toList, gG _ _ _ _ (by simp; omega)]
 by_cases hh : o <= i /\ i < o + vs.length
 ·rw [if_pos hh] at hi
  obtain ⟨u, a, b⟩ := h2.get hi
  exact ⟨u, by rw [if_pos (by omega)]; exact a, b⟩
 ·rw [if_neg hh] at hi
  obtain ⟨u, a, b⟩ := h1.get hi
  exact ⟨u, by rw [if_neg (by omega)]; simpa using a, b⟩
inductive PRs (φ : Nm) : List (Nat × V) -> List (Nat × Value) -> Prop where
 | nil : PRs φ [] []
 | cons {i : Nat} {v : V} {u : Value} {vs : List (Nat × V)} {us : List (Nat × Value)} : VR φ v u -> PRs φ vs us -> PRs φ ((i, v) :: vs) ((i, u) :: us)
theorem fillV_ok (place place' : Nat -> Option (Nat × Nat)) (hpl : place = place') : ∀ {ps : List (Nat × V)} {qs : List (Nat × Value)} {cs out : List V} {us : List Value}, PRs φ ps qs -> VRs φ cs us ->
  fillV place cs ps = some out -> ∃ C, Instr.fill place' ⟨us⟩ qs = some C /\ VRs φ out C.toList
 | _, _, cs, out, us, .nil, hc, h => by unfold fillV at h; cases h; exact ⟨⟨us⟩, rfl, hc⟩
 | _, _, cs, out, us, .cons (i := i) (v := v) (u := u) (us := qs) hv hr, hc, h => by
  subst hpl
  unfold fillV at h
  split at h
  ·cases h
  ·next off size hp =>
   split at h
   ·next hh =>
    have hcc := hv.cells
    have hl := hcc.length; have hl2 := hc.length
    obtain ⟨C, h1, h2⟩ := fillV_ok place place rfl hr (VRs.put hc hcc (by omega)) h
    refine ⟨C, ?_, h2⟩
    have hsz : u.cells.size = size := by simp at hl; omega
    have e1 : ¬ (u.cells.size ≠ size) := by simp [hsz]
    unfold Instr.fill
    simp only [hp]
    rw [if_neg]
    ·rw [<- Array.foldl_toList, Array.toList_zipIdx, foldl_put]
     exact h1
    ·simp [hsz]; omega
   ·cases h
theorem kf {α : Type} : ∀ (n : Nat) (l : List α), (reps n l).length = n * l.length
 | 0, _ => by simp [reps]
 | n + 1, l => by simp [reps, kf n l, Nat.succ_mul]; omega
theorem reps_get {α : Type} : ∀ (n : Nat) (l : List α) (i : Nat), 0 < l.length -> i < n * l.length -> (reps n l)[i]? = l[i % l.length]?
 | 0, l, i, _, h => by simp at h
 | n + 1, l, i, hp, h => by
  rw [reps]
  by_cases hi : i < l.length
  ·rw [List.getElem?_append_left hi, Nat.mod_eq_of_lt hi]
  ·rw [List.getElem?_append_right (by omega), reps_get n l (i - l.length) hp (by rw [Nat.succ_mul] at h; omega)]
   congr 1
   rw [Nat.mod_eq_sub_mod (Nat.le_of_not_lt hi)]
theorem VRs.reps {zs : List V} {Z : Array Value} (h : VRs φ zs Z.toList) (n m : Nat) (hm : zs.length = m) (hp : 0 < m) :
  VRs φ (Ab.reps n zs) ((Array.range (n * m)).map (fun i => Z[i % Z.size]!)).toList := by
 have hl := h.length
 have hZ : Z.size = m := by simp at hl; omega
 refine gT (by rw [kf]; simp [hm]) fun i v hi => ?_
 have hlt : i < n * m := by
  rcases Nat.lt_or_ge i (n * m) with h | h
  ·exact h
  ·rw [List.getElem?_eq_none (by rw [kf, hm]; exact h)] at hi; cases hi
 rw [reps_get n zs i (by omega) (by rw [hm]; exact hlt), hm] at hi
 obtain ⟨u, h1, h2⟩ := h.get hi
 refine ⟨u, ?_, h2⟩
 have hmod : i % m < Z.size := by rw [hZ]; exact Nat.mod_lt _ hp
 rw [Array.getElem?_toList, Array.getElem?_map]
 have : (Array.range (n * m))[i]? = some i := by simp [hlt]
 rw [this]
 simp only [Option.map_some, hZ]
 rw [Array.getElem?_toList] at h1
 congr 1
 rw [getElem!_pos Z (i % m) hmod]
 rw [Array.getElem?_eq_getElem hmod] at h1
 exact Option.some.inj h1
theorem wrap_small (n : Int) (h0 : 0 <= n) (h1 : n <= 1000000000) : IntKind.i64.wrap n = n := IntWalk.i64_in n (by omega)
variable {cx : Cx} (hcx : qJ P cx)
include hcx
theorem placesV_ok : ∀ {fs : List Field} {ps : List (Nat × Nat)}, placesV cx fs = some ps -> fs.mapM (fun f => (P.info? f.type).map fun i => (f.offset, i.size)) = some ps
 | [], ps, h => by unfold placesV at h; cases h; rfl
 | f :: fs, ps, h => by
  unfold placesV at h
  split at h
  ·next k r hk hr =>
   cases h
   obtain ⟨i, hi, rfl⟩ := gA hcx hk
   simp [List.mapM_cons, hi, placesV_ok hr]
  ·cases h
theorem buildV_ok {t : Nat} {ps : List (Nat × V)} {qs : List (Nat × Value)} {v : V} (hp : PRs φ ps qs) (e : buildV cx t ps = some v) :
  ∃ u, VR φ v u /\ (Instr.build t ⟨qs⟩).run P w = .ok u w := by
 unfold buildV at e
 split at e
 ·next z fields hz hd =>
  obtain ⟨i, zv, hi, hiz, hzv⟩ := zero_ok hcx hz
  cases hpl : placesV cx fields.toList with
  | none => simp only [hpl] at e; cases e
  | some pl =>
   simp only [hpl, Option.map_eq_some_iff] at e
   obtain ⟨out, h1, rfl⟩ := e
   obtain ⟨C, h2, h3⟩ := fillV_ok (fun i => nth pl i) (fun i => pl.toArray[i]?) (by funext i; rw [qL]; simp) hp ((toV_ok hzv).cells (φ := φ)) h1
   refine ⟨.agg C, .agg h3, run_build w t ⟨qs⟩ C ?_⟩
   unfold Program.built
   simp only [hi, jf hcx hd, hiz, placesV_ok hcx hpl]
   exact h2
 ·next z n el hz hd =>
  obtain ⟨i, zv, hi, hiz, hzv⟩ := zero_ok hcx hz
  cases hk : cx.size el with
  | none => simp only [hk] at e; cases e
  | some k =>
   simp only [hk, Option.map_eq_some_iff] at e
   obtain ⟨out, h1, rfl⟩ := e
   obtain ⟨ie, hie, rfl⟩ := gA hcx hk
   obtain ⟨C, h2, h3⟩ := fillV_ok (fun i => some (i * ie.size, ie.size)) (fun i => some (i * ie.size, ie.size)) rfl hp ((toV_ok hzv).cells (φ := φ)) h1
   refine ⟨.agg C, .agg h3, run_build w t ⟨qs⟩ C ?_⟩
   unfold Program.built
   simp only [hi, jf hcx hd, hiz, hie]
   exact h2
 ·cases e
theorem wc {e n : Nat} {z : List V} (h : jT cx e n = some z) : ∃ i zv, P.info? e = some i /\ i.zero = some zv /\ 0 < i.size /\ zv.cells.size = i.size /\ z.length = n * i.size /\
  ∀ φ, VRs φ z ((Array.range (n * i.size)).map (fun j => zv.cells[j % zv.cells.size]!)).toList := by
 unfold jT at h
 split at h
 ·next k z' hk hz =>
  split at h
  ·next hl =>
   cases h
   obtain ⟨i, hi, his⟩ := gA hcx hk
   obtain ⟨i', zv, hi', hiz, hzv⟩ := zero_ok hcx hz
   rw [hi] at hi'; cases hi'
   have hc := fun φ => (toV_ok (φ := φ) hzv).cells
   have hlen := (hc (fun _ => none)).length
   refine ⟨i, zv, hi, hiz, by omega, by simp at hlen; omega, by rw [kf]; rw [hl, his], fun φ => ?_⟩
   exact (hc φ).reps n i.size (by omega) (by omega)
  ·cases h
 ·cases h
theorem buildSliceM_ok (r : Rel ng w0 φ h w) {t len : Nat} {ps : List (Nat × V)} {qs : List (Nat × Value)} {v : V} (hp : PRs φ ps qs) (e : buildSliceM cx t len ps h c = .ok v h' c' l)
  (hf : Fresh φ c c') : Done P ng w0 φ c c' h' w v (Instr.buildSlice t len ⟨qs⟩) := by
 unfold buildSliceM at e
 cases hd : cx.desc t with
 | none => simp only [hd] at e; exact (zY e).elim
 | some d =>
  simp only [hd] at e
  cases d
  case slice el =>
   simp only at e
   cases hk : cx.size el with
   | none => simp only [hk] at e; exact (zY e).elim
   | some k =>
    cases hz : jT cx el len with
    | none => simp only [hk, hz] at e; exact (zY e).elim
    | some z =>
     simp only [hk, hz] at e
     obtain ⟨i, zv, hi, hiz, hpos, hzs, hzl, hzr⟩ := wc hcx hz
     obtain ⟨i', hi', his⟩ := gA hcx hk
     rw [hi] at hi'; cases hi'; subst his
     by_cases hs : len * i.size <= 16777216
     ·rw [if_pos hs] at e
      obtain ⟨cs, h1, c1, l1, l2, e1, e2, _⟩ := z8 e
      obtain ⟨hfil, rfl, rfl, _⟩ := yH e1
      obtain ⟨n, h2, c2, l3, l4, e3, e4, _⟩ := z8 e2
      obtain ⟨rfl, rfl, rfl, _⟩ := jF e3
      obtain ⟨rfl, rfl, rfl, _⟩ := z7 e4
      obtain ⟨C, h5, h6⟩ := fillV_ok (fun j => some (j * i.size, i.size)) (fun j => some (j * i.size, i.size)) rfl hp (hzr φ) hfil
      have hc := hf n (by omega) (by omega)
      have hr := r.newCells (c := n) (e := el) hc h6
      refine ⟨_, .slice (some ⟨w.heap.size, 0, none⟩) len len, _, Ext.put _ hc, by omega, hr, ?_, ?_⟩
      ·exact VR.sliceK (L := ⟨w.heap.size, 0, C.toList.length⟩) 0 len len j1 (Nat.le_refl _)
      ·by_cases h0 : len * i.size = 0
       ·have : z = [] := List.eq_nil_of_length_eq_zero (by omega)
        subst this
        have hqs : qs = [] := by
         cases hp with
         | nil => rfl
         | cons a b =>
          unfold fillV at hfil
          simp only [List.length_nil] at hfil
          split at hfil
          ·omega
          ·cases hfil
        subst hqs
        have hC : C = #[] := by
         cases hp; unfold fillV at hfil; cases hfil; cases hC : C.toList with
         | nil => simpa using hC
         | cons _ _ => rw [hC] at h6; cases h6
        subst hC
        simp [Instr.buildSlice, run_underlying (jf hcx hd), sizeOf, typeInfo, hi, h0, Instr.fill, newRow]
        rw [show Array.range 0 = #[] from rfl, Array.map_empty]
       ·exact run_buildSlice w t el len ⟨qs⟩ C i zv (jf hcx hd) hi hiz (by omega) h0 h5
     ·rw [if_neg hs] at e; exact (zY e).elim
  all_goals exact (zY e).elim
theorem makeSliceM_ok (r : Rel ng w0 φ h w) {t : Nat} {x y v : V} {x' y' : Value} (hx : VR φ x x') (hy : VR φ y y') (e : makeSliceM cx t x y h c = .ok v h' c' l)
  (hf : Fresh φ c c') : Done P ng w0 φ c c' h' w v (Instr.makeSlice t x' y') := by
 unfold makeSliceM at e
 cases hd : cx.desc t with
 | none => simp only [hd] at e; exact (zY e).elim
 | some d =>
  simp only [hd] at e
  cases d
  case slice el =>
   cases hx <;> try exact (zY e).elim
   cases hy <;> try exact (zY e).elim
   rename_i k1 ln k2 cp
   simp only at e
   by_cases hb : 0 <= ln /\ ln <= cp /\ cp <= 1000000000
   ·rw [if_pos hb] at e
    cases hty : cx.ty el with
    | none => simp only [hty] at e; exact (zY e).elim
    | some i =>
     cases hz : jT cx el cp.toNat with
     | none => simp only [hty, hz] at e; exact (zY e).elim
     | some z =>
      simp only [hty, hz] at e
      obtain ⟨i', zv, hi, hiz, hpos, hzs, hzl, hzr⟩ := wc hcx hz
      have hi' := hcx.ty _ _ hty
      rw [hi] at hi'; cases hi'
      by_cases hby : i.bytes <= 4096
      ·rw [if_pos hby] at e
       obtain ⟨n, h2, c2, l3, l4, e3, e4, _⟩ := z8 e
       obtain ⟨rfl, rfl, rfl, _⟩ := jF e3
       obtain ⟨rfl, rfl, rfl, _⟩ := z7 e4
       have hc := hf n (by omega) (by omega)
       have hr := r.newCells (c := n) (e := el) hc (hzr φ)
       refine ⟨_, .slice (some ⟨w.heap.size, 0, none⟩) ln.toNat cp.toNat, _, Ext.put _ hc, by omega, hr, ?_, ?_⟩
       ·exact VR.sliceK (L := ⟨w.heap.size, 0, _⟩) 0 _ _ j1 (by omega)
       ·have hw1 : IntKind.i64.wrap ln = ln := wrap_small ln hb.1 (by omega)
        have hw2 : IntKind.i64.wrap cp = cp := wrap_small cp (by omega) hb.2.2
        have hmul : (i.bytes : Int) * cp <= 4096 * 1000000000 := by
         have h1 : (i.bytes : Int) * cp <= 4096 * cp := Int.mul_le_mul_of_nonneg_right (by omega) (by omega)
         omega
        have hbig : ¬ (i.bytes : Int) * cp > 2 ^ 48 := by
         have : (2 ^ 48 : Int) = 281474976710656 := by decide
         rw [this]; omega
        simp only [Instr.makeSlice, Sem.run_bind, run_underlying (jf hcx hd), Result.andThen_ok, asInt, asIntOf, Sem.run_pure, typeInfo, run_program, hi, hw1, hw2]
        rw [if_neg (by simp [hbig]; omega)]
        simp only [Sem.run_bind, run_askRoom, Result.andThen_ok, sizeOf, typeInfo, run_program, hi, Sem.run_pure, Sem.run_ite, zeroValue, hiz, newRow, run_newObj]
        by_cases h0 : cp.toNat * i.size = 0
        ·rw [if_pos h0, h0, show Array.range 0 = #[] from rfl, Array.map_empty, Array.map_empty]; rfl
        ·rw [if_neg h0]; rfl
      ·rw [if_neg hby] at e; exact (zY e).elim
   ·rw [if_neg hb] at e; exact (zY e).elim
  all_goals exact (zY e).elim
end
open Go.RowKit
section
variable {P : Program} {t : Nat} (w : World) (d : Nat)
theorem eqIn_ptrNil {el : TypeId} (hu : P.underlying t = some (.pointer el)) (b : Option Addr) : (Op.equalIn (d + 1) t (.pointer none) (.pointer b)).run P w = .ok b.isNone w := by simp [Op.equalIn, run_underlying hu]
theorem eqIn_nilPtr {el : TypeId} (hu : P.underlying t = some (.pointer el)) (a : Addr) : (Op.equalIn (d + 1) t (.pointer (some a)) (.pointer none)).run P w = .ok false w := by simp [Op.equalIn, run_underlying hu]
theorem eqIn_ptr {el : TypeId} (hu : P.underlying t = some (.pointer el)) {k : Nat} (hs : (sizeOf el).run P w = .ok (k + 1) w) (a b : Addr) :
  (Op.equalIn (d + 1) t (.pointer (some a)) (.pointer (some b))).run P w = (sameAddr a b).run P w := by
 simp [Op.equalIn, run_underlying hu, hs]
theorem eqIn_sliceNil {el : TypeId} (hu : P.underlying t = some (.slice el)) (a : Option Addr) (i j k m : Nat) : (Op.equalIn (d + 1) t (.slice none i j) (.slice a k m)).run P w = .ok a.isNone w := by simp [Op.equalIn, run_underlying hu]
theorem eqIn_nilSlice {el : TypeId} (hu : P.underlying t = some (.slice el)) (a : Addr) (i j k m : Nat) : (Op.equalIn (d + 1) t (.slice (some a) i j) (.slice none k m)).run P w = .ok false w := by simp [Op.equalIn, run_underlying hu]
theorem eqIn_mapNil {k el : TypeId} (hu : P.underlying t = some (.map k el)) (a : Option Nat) : (Op.equalIn (d + 1) t (.map none) (.map a)).run P w = .ok a.isNone w := by simp [Op.equalIn, run_underlying hu]
theorem eqIn_nilMap {k el : TypeId} (hu : P.underlying t = some (.map k el)) (a : Nat) : (Op.equalIn (d + 1) t (.map (some a)) (.map none)).run P w = .ok false w := by simp [Op.equalIn, run_underlying hu]
theorem eqIn_funcNil {p q : Array TypeId} {v : Bool} (hu : P.underlying t = some (.func p q v)) : (Op.equalIn (d + 1) t .nilFunc .nilFunc).run P w = .ok true w := by simp [Op.equalIn, run_underlying hu]
theorem eqIn_funcNil1 {p q : Array TypeId} {v : Bool} (hu : P.underlying t = some (.func p q v)) (f : Fn) (a b : Array Value) : (Op.equalIn (d + 1) t .nilFunc (.func f a b)).run P w = .ok false w := by simp [Op.equalIn, run_underlying hu]
theorem eqIn_funcNil2 {p q : Array TypeId} {v : Bool} (hu : P.underlying t = some (.func p q v)) (f : Fn) (a b : Array Value) : (Op.equalIn (d + 1) t (.func f a b) .nilFunc).run P w = .ok false w := by simp [Op.equalIn, run_underlying hu]
theorem eqIn_ifaceNil {ms : Array (String × TypeId)} (hu : P.underlying t = some (.interface ms)) : (Op.equalIn (d + 1) t .nilIface .nilIface).run P w = .ok true w := by simp [Op.equalIn, run_underlying hu]
end
section
variable {H : Type} [MapI H AObj] {P : Program} {ng : Nat} {w0 w : World} {φ : Nm} {h h' : H} {c c' : Nat} {l : List Acc}
variable {cx : Cx} (hcx : qJ P cx)
include hcx
theorem eqM_ok (r : Rel ng w0 φ h w) {t : Nat} {x y : V} {x' y' : Value} {b : Bool} (hx : VR φ x x') (hy : VR φ y y') (e : eqM cx t x y h c = .ok b h' c' l) :
  h' = h /\ c' = c /\ (Op.equal t x' y').run P w = .ok b w := by
 have fb : (lift "==: not asked here" (eqV cx 200 t x y) : M H Bool) h c = .ok b h' c' l -> h' = h /\ c' = c /\ (Op.equal t x' y').run P w = .ok b w := fun e => by
  obtain ⟨e1, rfl, rfl, _⟩ := yH e
  exact ⟨rfl, rfl, eqV_ok hcx 200 Op.maxDepth t x y x' y' b (by decide) hx hy e1⟩
 unfold eqM at e
 cases hd : cx.desc t with
 | none => simp only [hd] at e; exact fb e
 | some d =>
  have hu := jf hcx hd
  simp only [hd] at e
  cases d
  case pointer el =>
   cases hx <;> try exact fb e
   case ptrNil =>
    cases hy <;> try exact fb e
    ·obtain ⟨rfl, rfl, rfl, _⟩ := z7 e; exact ⟨rfl, rfl, eqIn_ptrNil w 9999 hu _⟩
    ·obtain ⟨rfl, rfl, rfl, _⟩ := z7 e; exact ⟨rfl, rfl, eqIn_ptrNil w 9999 hu _⟩
   case ptr n L o hL =>
    cases hy <;> try exact fb e
    case ptrNil => obtain ⟨rfl, rfl, rfl, _⟩ := z7 e; exact ⟨rfl, rfl, eqIn_nilPtr w 9999 hu _⟩
    case ptr m K p hK =>
     simp only at e
     cases hs : cx.size el with
     | none => simp only [hs] at e; exact (zY e).elim
     | some k =>
      cases k with
      | zero => simp only [hs] at e; exact (zY e).elim
      | succ k =>
       simp only [hs] at e
       have hsz := j5 hcx hs w
       by_cases hnm : n = m
       ·subst hnm
        rw [hL] at hK; cases hK
        rw [if_pos rfl] at e
        obtain ⟨rfl, rfl, rfl, _⟩ := z7 e
        refine ⟨rfl, rfl, ?_⟩
        have : ((⟨L.blk, L.off + o, none⟩ : Addr) == ⟨L.blk, L.off + p, none⟩) = (o == p) := by
         rw [Bool.eq_iff_iff, beq_iff_eq, beq_iff_eq]; simp
        refine (eqIn_ptr w 9999 hu hsz _ _).trans ?_
        simp [sameAddr, this]
       ·rw [if_neg hnm] at e
        obtain ⟨o1, h1, c1, l1, l2, e1, e2, _⟩ := z8 e
        obtain ⟨hn, rfl, rfl, _⟩ := y9 e1
        split at e2
        ·next cs =>
         split at e2
         ·next ho =>
          obtain ⟨o2, h2, c2, l3, l4, e3, e4, _⟩ := z8 e2
          obtain ⟨hm, rfl, rfl, _⟩ := y9 e3
          split at e4
          ·next ds =>
           split at e4
           ·next hp =>
            obtain ⟨rfl, rfl, rfl, _⟩ := z7 e4
            refine ⟨rfl, rfl, ?_⟩
            have hap := r.apart n m _ _ L K hnm hn hm rfl rfl hL hK
            obtain ⟨L', hL', ⟨C, ee, fr, hb, _, _, _, _, hcl⟩, _⟩ := r.obj n _ hn
            rw [hL] at hL'; cases hL'
            obtain ⟨K', hK', ⟨D, ef, fs, hb', _, _, _, _, hcl'⟩, _⟩ := r.obj m _ hm
            rw [hK] at hK'; cases hK'
            have := (hcl rfl).1; subst this
            have := (hcl' rfl).1; subst this
            have f1 : ∀ i, w.frozen? ⟨L.blk, i, none⟩ = false := fun i => by rw [frozen_at hb]; simp
            have f2 : ∀ i, w.frozen? ⟨K.blk, i, none⟩ = false := fun i => by rw [frozen_at hb']; simp
            have s1 : w.shape? L.blk = some (ee, C.size) := by simp [World.shape?, hb]
            have s2 : w.shape? K.blk = some (ef, D.size) := by simp [World.shape?, hb']
            have hbne : (L.blk == K.blk) = false := by simpa using hap
            refine (eqIn_ptr w 9999 hu hsz _ _).trans ?_
            simp [sameAddr, hap, f1, f2, s1, s2, noView, viewAt, mayBeOne, stringish]
           ·exact (zY e4).elim
          ·exact (zY e4).elim
         ·exact (zY e2).elim
        ·exact (zY e2).elim
  case slice el =>
   cases hx <;> try exact fb e
   case sliceNil =>
    cases hy <;> try exact fb e
    all_goals (obtain ⟨rfl, rfl, rfl, _⟩ := z7 e; exact ⟨rfl, rfl, eqIn_sliceNil w 9999 hu _ _ _ _ _⟩)
   all_goals
    cases hy <;> try exact fb e
    all_goals (obtain ⟨rfl, rfl, rfl, _⟩ := z7 e; exact ⟨rfl, rfl, eqIn_nilSlice w 9999 hu _ _ _ _ _⟩)
  case map kt el =>
   cases hx <;> try exact fb e
   case mapNil =>
    cases hy <;> try exact fb e
    all_goals (obtain ⟨rfl, rfl, rfl, _⟩ := z7 e; exact ⟨rfl, rfl, eqIn_mapNil w 9999 hu _⟩)
   case map =>
    cases hy <;> try exact fb e
    all_goals (obtain ⟨rfl, rfl, rfl, _⟩ := z7 e; exact ⟨rfl, rfl, eqIn_nilMap w 9999 hu _⟩)
  case func ps rs v =>
   cases hx <;> try exact fb e
   case nilFunc =>
    cases hy <;> try exact fb e
    all_goals (obtain ⟨rfl, rfl, rfl, _⟩ := z7 e; first | exact ⟨rfl, rfl, eqIn_funcNil w 9999 hu⟩ | exact ⟨rfl, rfl, eqIn_funcNil1 w 9999 hu _ _ _⟩)
   case func =>
    cases hy <;> try exact fb e
    all_goals (obtain ⟨rfl, rfl, rfl, _⟩ := z7 e; exact ⟨rfl, rfl, eqIn_funcNil2 w 9999 hu _ _ _⟩)
  all_goals exact fb e
end
open Go.RowKit
section
variable {H : Type} [MapI H AObj] {P : Program} {ng : Nat} {w0 w : World} {φ : Nm} {h h' : H} {c c' : Nat} {l : List Acc}
theorem gi {op : BinOp} {t : Nat} {X Y : Operand} {a b : Value} (h1 : ∀ xs ys, ¬ (a = .agg xs /\ b = .agg ys)) (h2 : ¬ (a = .nilIface /\ b = .nilIface)) : (eqGuard op t X Y a b).run P w = .ok () w := by
 unfold eqGuard
 cases op <;> simp only [Bool.not_true, Bool.not_false, Bool.false_eq_true, if_false, if_true] <;> first
  | rfl
  | (split
     · exact absurd ⟨rfl, rfl⟩ h2
     · exact absurd ⟨rfl, rfl⟩ (h1 _ _)
     · rfl)
theorem guard_nil {op : BinOp} {t : Nat} {X Y : Operand} (hc : (kW X || kW Y) = true) : (eqGuard op t X Y .nilIface .nilIface).run P w = .ok () w := by
 unfold eqGuard
 cases op <;> simp only [Bool.not_true, Bool.not_false, Bool.false_eq_true, if_false, if_true] <;> first
  | rfl
  | (cases X <;> cases Y <;> first | rfl | (simp [kW] at hc))
theorem eql_run {t : Nat} {a b : Value} {r : Bool} (h : (Op.equal t a b).run P w = .ok r w)
  (hi : ∀ j k x y, ¬ (a = .int j x /\ b = .int k y)) (hs : ∀ x y, ¬ (a = .string x /\ b = .string y)) (hf : ∀ j k x y, ¬ (a = .float j x /\ b = .float k y))
  (hc : ∀ j k x y z u, ¬ (a = .complex j x y /\ b = .complex k z u)) : (binOp .eql t a b).run P w = .ok (.bool r) w := by
 cases a <;> cases b <;> first
  | (simp only [binOp, Sem.run_bind, h, Result.andThen_ok, Sem.run_pure]; done)
  | exact absurd ⟨rfl, rfl⟩ (hi _ _ _ _) | exact absurd ⟨rfl, rfl⟩ (hs _ _) | exact absurd ⟨rfl, rfl⟩ (hf _ _ _ _) | exact absurd ⟨rfl, rfl⟩ (hc _ _ _ _ _ _)
theorem neq_run {t : Nat} {a b : Value} {r : Bool} (h : (Op.equal t a b).run P w = .ok r w)
  (hi : ∀ j k x y, ¬ (a = .int j x /\ b = .int k y)) (hs : ∀ x y, ¬ (a = .string x /\ b = .string y)) (hf : ∀ j k x y, ¬ (a = .float j x /\ b = .float k y))
  (hc : ∀ j k x y z u, ¬ (a = .complex j x y /\ b = .complex k z u)) : (binOp .neq t a b).run P w = .ok (.bool (!r)) w := by
 cases a <;> cases b <;> first
  | (simp only [binOp, Sem.run_bind, h, Result.andThen_ok, Sem.run_pure]; done)
  | exact absurd ⟨rfl, rfl⟩ (hi _ _ _ _) | exact absurd ⟨rfl, rfl⟩ (hs _ _) | exact absurd ⟨rfl, rfl⟩ (hf _ _ _ _) | exact absurd ⟨rfl, rfl⟩ (hc _ _ _ _ _ _)
variable {cx : Cx} (hcx : qJ P cx)
include hcx
theorem guard_agg {op : BinOp} {t : Nat} {X Y : Operand} {xs ys : List V} {us vs : Array Value} {b : Bool} (e : (eqM cx t (.agg xs) (.agg ys) : M H Bool) h c = .ok b h' c' l) :
  (eqGuard op t X Y (.agg us) (.agg vs)).run P w = .ok () w := by
 have key : ∀ b, eqV cx 200 t (.agg xs) (.agg ys) = some b -> cx.eqOk t = true := fun b hb => by
  unfold eqV at hb
  cases hd : cx.desc t with
  | none => simp only [hd] at hb; cases hb
  | some d =>
   cases d <;> simp only [hd] at hb <;> try (cases hb; done)
   split at hb
   ·next he => exact he
   ·cases hb
 have hk : cx.eqOk t = true := by
  unfold eqM at e
  cases hd : cx.desc t with
  | none => simp only [hd] at e; exact key _ (yH e).1
  | some d => cases d <;> simp only [hd] at e <;> exact key _ (yH e).1
 exact run_eqGuard_agg w op t X Y us vs (hcx.eqOk _ hk).2
theorem binM_ok (r : Rel ng w0 φ h w) {op : BinOp} {t : Nat} {X Y : Operand} {x y v : V} {x' y' : Value} (hx : VR φ x x') (hy : VR φ y y')
  (e : binM cx op t (kW X || kW Y) x y h c = .ok v h' c' l) :
  h' = h /\ c' = c /\ ∃ u, VR φ v u /\ (do eqGuard op t X Y x' y'; binOp op t x' y' : Sem Value).run P w = .ok u w := by
 have go : ∀ u, (eqGuard op t X Y x' y').run P w = .ok () w -> (binOp op t x' y').run P w = .ok u w -> (do eqGuard op t X Y x' y'; binOp op t x' y' : Sem Value).run P w = .ok u w := fun u h1 h2 => by
  simp only [Sem.run_bind, h1, Result.andThen_ok, h2]
 unfold binM at e
 split at e
 ·next k a k2 b =>
  cases hx; cases hy
  obtain ⟨e1, rfl, rfl, _⟩ := yH e
  obtain ⟨u, h1, h2⟩ := shiftBin_ok (P := P) (w := w) (φ := φ) (yk := k2) (t := t) (.inl rfl) e1
  exact ⟨rfl, rfl, u, h1, go u (gi (by simp) (by simp)) h2⟩
 ·next k a k2 b =>
  cases hx; cases hy
  obtain ⟨e1, rfl, rfl, _⟩ := yH e
  obtain ⟨u, h1, h2⟩ := shiftBin_ok (P := P) (w := w) (φ := φ) (yk := k2) (t := t) (.inr rfl) e1
  exact ⟨rfl, rfl, u, h1, go u (gi (by simp) (by simp)) h2⟩
 ·next op k a k2 b n1 n2 =>
  cases hx; cases hy
  split at e
  ·next hk =>
   subst hk
   obtain ⟨e1, rfl, rfl, _⟩ := yH e
   obtain ⟨u, h1, h2⟩ := intBin_ok (P := P) (w := w) (φ := φ) (t := t) ⟨fun hh => n1 hh, fun hh => n2 hh⟩ e1
   exact ⟨rfl, rfl, u, h1, go u (gi (by simp) (by simp)) h2⟩
  ·exact (zY e).elim
 ·cases hx; cases hy
  obtain ⟨e1, rfl, rfl, _⟩ := yH e
  obtain ⟨u, h1, h2⟩ := strBin_ok (P := P) (w := w) (φ := φ) (t := t) e1
  exact ⟨rfl, rfl, u, h1, go u (gi (by simp) (by simp)) h2⟩
 ·cases hx; cases hy
  split at e
  ·next hc =>
   cases hd : cx.desc t with
   | none => simp only [hd] at e; exact (zY e).elim
   | some d =>
    simp only [hd] at e
    cases d <;> try exact (zY e).elim
    obtain ⟨rfl, rfl, rfl, _⟩ := z7 e
    exact ⟨rfl, rfl, _, .bool _, go _ (guard_nil hc) (eql_run (eqIn_ifaceNil w 9999 (jf hcx hd)) (by simp) (by simp) (by simp) (by simp))⟩
  ·exact (zY e).elim
 ·cases hx; cases hy
  split at e
  ·next hc =>
   cases hd : cx.desc t with
   | none => simp only [hd] at e; exact (zY e).elim
   | some d =>
    simp only [hd] at e
    cases d <;> try exact (zY e).elim
    obtain ⟨rfl, rfl, rfl, _⟩ := z7 e
    exact ⟨rfl, rfl, _, .bool _, go _ (guard_nil hc) (neq_run (eqIn_ifaceNil w 9999 (jf hcx hd)) (by simp) (by simp) (by simp) (by simp))⟩
  ·exact (zY e).elim
 ·next n1 n2 n3 =>
  obtain ⟨b, h1, c1, l1, l2, e1, e2, _⟩ := z8 e
  obtain ⟨rfl, rfl, hr⟩ := eqM_ok hcx r hx hy e1
  obtain ⟨rfl, rfl, rfl, _⟩ := z7 e2
  refine ⟨rfl, rfl, _, .bool _, go _ ?_ (eql_run hr ?_ ?_ ?_ ?_)⟩
  ·cases hx <;> cases hy <;> first
    | exact (n3 rfl rfl).elim
    | exact guard_agg hcx e1
    | exact gi (by simp) (by simp)
  ·intro j k a b hh; obtain ⟨rfl, rfl⟩ := hh; cases hx; cases hy; exact (n1 _ _ _ _ rfl rfl).elim
  ·intro a b hh; obtain ⟨rfl, rfl⟩ := hh; cases hx; cases hy; exact (n2 _ _ rfl rfl).elim
  ·intro j k a b hh; obtain ⟨rfl, rfl⟩ := hh; cases hx
  ·intro j k a b c d hh; obtain ⟨rfl, rfl⟩ := hh; cases hx
 ·next n1 n2 n3 =>
  obtain ⟨b, h1, c1, l1, l2, e1, e2, _⟩ := z8 e
  obtain ⟨rfl, rfl, hr⟩ := eqM_ok hcx r hx hy e1
  obtain ⟨rfl, rfl, rfl, _⟩ := z7 e2
  refine ⟨rfl, rfl, _, .bool _, go _ ?_ (neq_run hr ?_ ?_ ?_ ?_)⟩
  ·cases hx <;> cases hy <;> first
    | exact (n3 rfl rfl).elim
    | exact guard_agg hcx e1
    | exact gi (by simp) (by simp)
  ·intro j k a b hh; obtain ⟨rfl, rfl⟩ := hh; cases hx; cases hy; exact (n1 _ _ _ _ rfl rfl).elim
  ·intro a b hh; obtain ⟨rfl, rfl⟩ := hh; cases hx; cases hy; exact (n2 _ _ rfl rfl).elim
  ·intro j k a b hh; obtain ⟨rfl, rfl⟩ := hh; cases hx
  ·intro j k a b c d hh; obtain ⟨rfl, rfl⟩ := hh; cases hx
 ·exact (zY e).elim
end
open Go.RowKit
section
variable {H : Type} [MapI H AObj] {P : Program} {ng : Nat} {w0 w : World} {φ : Nm} {h h' : H} {c c' : Nat} {l : List Acc}
inductive VRo (φ : Nm) : Option V -> Option Value -> Prop where
 | none : VRo φ none none
 | some {v : V} {u : Value} : VR φ v u -> VRo φ (some v) (some u)
theorem jP {q : Value} {k : IntKind} {i : Int} {y : Nat} {cd : BoundsCode} (hq : q = .int k i) (h0 : 0 <= i) (h1 : i.toNat <= y) : (Instr.sliceBound q y cd).run P w = .ok i.toNat w := by
 subst hq
 simp only [Instr.sliceBound, asIntOf, Sem.run_bind, Sem.run_pure, Result.andThen_ok, Sem.run_ite]
 rw [if_pos (by omega)]
theorem wq {d : Nat} {m : Nat} (h : bound none d = some m) : m = d := by unfold bound at h; cases h; rfl
theorem gS {v : V} {u : Value} {d m : Nat} (hv : VR φ v u) (h : bound (some v) d = some m) : ∃ k i, u = .int k i /\ 0 <= i /\ i.toNat = m := by
 unfold bound at h
 split at h
 ·next e => cases e
 ·next k i _ e =>
  cases e; cases hv
  split at h
  ·next h0 => cases h; exact ⟨_, _, rfl, h0, rfl⟩
  ·cases h
 ·cases h
theorem qF {lo hi : Option V} {lo' hi' : Option Value} {len cap a b : Nat} {sl : Bool} (hlo : VRo φ lo lo') (hhi : VRo φ hi hi') (ha : bound lo 0 = some a) (hb : bound hi len = some b)
  (hab : a <= b) (hbc : b <= cap) : (Instr.sliceBounds sl len cap lo' hi' none).run P w = .ok (a, b, cap) w := by
 unfold Instr.sliceBounds
 cases hhi with
 | none =>
  have hb' := wq hb; subst hb'
  cases hlo with
  | none => have ha' := wq ha; subst ha'; rfl
  | some hv =>
   obtain ⟨k, i, rfl, h0, rfl⟩ := gS hv ha
   simp only [pure_bind, Sem.run_bind, jP (P := P) (w := w) rfl h0 hab, Result.andThen_ok]; rfl
 | some hw =>
  obtain ⟨k2, i2, rfl, h02, rfl⟩ := gS hw hb
  cases hlo with
  | none =>
   have ha' := wq ha; subst ha'
   simp only [pure_bind, Sem.run_bind, jP (P := P) (w := w) rfl h02 hbc, Result.andThen_ok]; rfl
  | some hv =>
   obtain ⟨k, i, rfl, h0, rfl⟩ := gS hv ha
   simp only [pure_bind, Sem.run_bind, jP (P := P) (w := w) rfl h02 hbc, jP (P := P) (w := w) rfl h0 hab, Result.andThen_ok]; rfl
theorem bounds3_run {lo hi : Option V} {lo' hi' : Option Value} {len cap a b : Nat} {k : IntKind} {m : Int} (hlo : VRo φ lo lo') (hhi : VRo φ hi hi') (ha : bound lo 0 = some a) (hb : bound hi len = some b)
  (hs : hi ≠ none) (hab : a <= b) (h0 : 0 <= m) (hbm : b <= m.toNat) (hmc : m.toNat <= cap) :
  (Instr.sliceBounds true len cap lo' hi' (some (.int k m))).run P w = .ok (a, b, m.toNat) w := by
 cases hhi with
 | none => exact absurd rfl hs
 | some hv =>
  obtain ⟨k2, i, rfl, hi0, rfl⟩ := gS hv hb
  unfold Instr.sliceBounds
  simp only [Sem.run_bind, jP (P := P) (w := w) rfl h0 hmc, jP (P := P) (w := w) rfl hi0 hbm, Result.andThen_ok]
  cases hlo with
  | none => rw [wq ha]; rfl
  | some hv2 =>
   obtain ⟨k3, j, rfl, hj0, rfl⟩ := gS hv2 ha
   simp only [Sem.run_bind, jP (P := P) (w := w) rfl hj0 hab, Result.andThen_ok, Sem.run_pure]
theorem extract_str (s : List UInt8) (a b : Nat) : (⟨⟨s⟩⟩ : ByteArray).extract a b = ⟨⟨(s.drop a).take (b - a)⟩⟩ := by
 apply ByteArray.ext
 rw [ByteArray.data_extract]
 apply Array.ext'
 rw [Array.toList_extract]
variable {cx : Cx} (hcx : qJ P cx)
include hcx
theorem sliceM_ok (r : Rel ng w0 φ h w) {t : Nat} {x v : V} {x' : Value} {lo hi mx : Option V} {lo' hi' mx' : Option Value} (hx : VR φ x x') (hlo : VRo φ lo lo') (hhi : VRo φ hi hi') (hmx : VRo φ mx mx')
  (e : sliceM cx t x lo hi mx h c = .ok v h' c' l) : h' = h /\ c' = c /\ ∃ u, VR φ v u /\ (Instr.sliceAt t x' lo' hi' mx').run P w = .ok u w := by
 unfold sliceM at e
 cases hd : cx.desc t with
 | none => simp only [hd] at e; exact (zY e).elim
 | some d =>
  have hu := jf hcx hd
  simp only [hd] at e
  cases d <;> try exact (zY e).elim
  case string =>
   cases hx <;> try exact (zY e).elim
   rename_i s
   cases hmx with
   | some _ => exact (zY e).elim
   | none =>
    simp only at e
    cases ha : bound lo 0 with
    | none => simp only [ha] at e; exact (zY e).elim
    | some a =>
     cases hb : bound hi s.length with
     | none => simp only [ha, hb] at e; exact (zY e).elim
     | some b =>
      simp only [ha, hb] at e
      by_cases hh : a <= b /\ b <= s.length
      ·rw [if_pos hh] at e
       obtain ⟨rfl, rfl, rfl, _⟩ := z7 e
       refine ⟨rfl, rfl, _, .str _, ?_⟩
       have hbr := qF (P := P) (w := w) (sl := false) (cap := s.length) hlo hhi ha hb hh.1 hh.2
       simp only [Instr.sliceAt, Sem.run_bind, run_underlying hu, Result.andThen_ok, Instr.slice]
       have hsz : (⟨⟨s⟩⟩ : ByteArray).size = s.length := rfl
       simp only [Option.isSome_none, Bool.false_eq_true, if_false, Sem.run_bind, hsz, hbr, Result.andThen_ok, Sem.run_pure, extract_str]
      ·rw [if_neg hh] at e; exact (zY e).elim
  case slice el =>
   have key : ∀ (a' : Option Addr) (len' cap' : Nat) (bb : Nat × Nat × Nat) (k : Nat), cx.size el = some k -> (Instr.sliceBounds true len' cap' lo' hi' mx').run P w = .ok bb w ->
     (Instr.sliceAt t (.slice a' len' cap') lo' hi' mx').run P w = .ok (.slice (if bb.2.2 = bb.1 then a' else a'.map (·.add (bb.1 * k))) (bb.2.1 - bb.1) (bb.2.2 - bb.1)) w := fun a' len' cap' bb k hk hb => by
    simp only [Instr.sliceAt, Sem.run_bind, run_underlying hu, Result.andThen_ok, Instr.slice, hb, j5 hcx hk, Sem.run_pure]
   have go : ∀ (a : Option (Nat × Nat)) (len : Nat) (cap : Cap) (u' : Value), x = .slice a len cap -> x' = u' -> VR φ (.slice a len cap) u' -> h' = h /\ c' = c /\ ∃ u, VR φ v u /\ (Instr.sliceAt t u' lo' hi' mx').run P w = .ok u w := by
    intro a len cap u' hxe hue hv
    subst hxe
    simp only at e
    cases hk : cx.size el with
    | none => simp only [hk] at e; exact (zY e).elim
    | some k =>
     cases ha : bound lo 0 with
     | none => simp only [hk, ha] at e; exact (zY e).elim
     | some p =>
      cases hb : bound hi len with
      | none => simp only [hk, ha, hb] at e; exact (zY e).elim
      | some q =>
       simp only [hk, ha, hb] at e
       by_cases hpq : p <= q
       rotate_left
       ·rw [if_neg hpq] at e; exact (zY e).elim
       rw [if_pos hpq] at e
       cases hmx with
       | none =>
        cases hv with
        | sliceNil =>
         simp only at e
         by_cases hq0 : q = 0
         rotate_left
         ·rw [if_neg hq0] at e; exact (zY e).elim
         rw [if_pos hq0] at e
         obtain ⟨rfl, rfl, rfl, _⟩ := z7 e
         have hp0 : p = 0 := by omega
         subst hp0; subst hq0
         refine ⟨rfl, rfl, _, .sliceNil, (key _ _ _ _ k hk (qF hlo hhi ha hb (Nat.le_refl _) (Nat.le_refl _))).trans ?_⟩
         simp
        | sliceK o len cc hL hle =>
         rename_i n L
         simp only at e
         by_cases hqc : q <= cc
         rotate_left
         ·rw [if_neg hqc] at e; exact (zY e).elim
         rw [if_pos hqc] at e
         obtain ⟨rfl, rfl, rfl, _⟩ := z7 e
         refine ⟨rfl, rfl, _, ?_, key _ _ _ _ k hk (qF hlo hhi ha hb hpq hqc)⟩
         simp only
         by_cases hcp : cc = p
         ·rw [if_pos hcp, if_pos hcp]; exact .sliceK o _ _ hL (by omega)
         ·rw [if_neg hcp, if_neg hcp]
          simp only [Option.map_some, jO]
          rw [show L.off + o + p * k = L.off + (o + p * k) by omega]
          exact .sliceK _ _ _ hL (by omega)
        | sliceK0 o a hL =>
         rename_i n L
         simp only at e
         by_cases hqc : q <= 0
         rotate_left
         ·rw [if_neg hqc] at e; exact (zY e).elim
         rw [if_pos hqc] at e
         obtain ⟨rfl, rfl, rfl, _⟩ := z7 e
         have hq0 : q = 0 := by omega
         have hp0 : p = 0 := by omega
         subst hq0; subst hp0
         refine ⟨rfl, rfl, _, ?_, key _ _ _ _ k hk (qF hlo hhi ha hb hpq hqc)⟩
         simp only [if_true]
         exact .sliceK0 _ _ hL
        | sliceU o len cap sz hL hlim hle hsz =>
         rename_i n L
         simp only at e
         by_cases hsk : sz = k /\ 0 < k
         rotate_left
         ·rw [if_neg hsk] at e; exact (zY e).elim
         rw [if_pos hsk] at e
         obtain ⟨rfl, _⟩ := hsk
         have fin : q <= cap -> v = .slice (some (n, o + p * sz)) (q - p) (.upTo sz) -> ∃ u, VR φ v u /\ (Instr.sliceAt t (.slice (some ⟨L.blk, L.off + o, none⟩) len cap) lo' hi' none).run P w = .ok u w := fun hqc hve => by
          subst hve
          refine ⟨_, ?_, key _ _ _ _ sz hk (qF hlo hhi ha hb hpq hqc)⟩
          simp only
          by_cases hcp : cap = p
          ·rw [if_pos hcp]
           have hq : q = p := by omega
           subst hq; subst hcp
           simp only [Nat.sub_self]
           exact .sliceZ _ _ _ hL (by omega) hsz
          ·rw [if_neg hcp]
           simp only [Option.map_some, jO]
           rw [show L.off + o + p * sz = L.off + (o + p * sz) by omega]
           refine .sliceU _ _ _ _ hL ?_ (by omega) hsz
           have : p * sz + (cap - p) * sz = cap * sz := by rw [<- Nat.add_mul]; congr 1; omega
           omega
         by_cases hql : q <= len
         ·rw [if_pos hql] at e
          obtain ⟨hve, rfl, rfl, _⟩ := z7 e
          exact ⟨rfl, rfl, fin (by omega) hve⟩
         ·rw [if_neg hql] at e
          obtain ⟨ob, h1, c1, l1, l2, e1, e2, _⟩ := z8 e
          obtain ⟨hn, rfl, rfl, _⟩ := y9 e1
          cases ob <;> try exact (zY e2).elim
          case cells rw cl cs =>
           simp only at e2
           by_cases hfit : o + q * sz <= cs.length
           ·rw [if_pos hfit] at e2
            obtain ⟨hve, rfl, rfl, _⟩ := z7 e2
            refine ⟨rfl, rfl, fin ?_ hve⟩
            obtain ⟨L', hL', ⟨C, ee, fr, hbk, hlen, _⟩, _⟩ := r.obj n _ hn
            rw [hL] at hL'; cases hL'
            have : q * sz <= cap * sz := by omega
            exact Nat.le_of_mul_le_mul_right this hsz
           ·rw [if_neg hfit] at e2; exact (zY e2).elim
        | sliceZ o sz a hL hlim hsz =>
         rename_i n L
         simp only at e
         by_cases hsk : sz = k /\ 0 < k
         rotate_left
         ·rw [if_neg hsk] at e; exact (zY e).elim
         rw [if_pos hsk] at e
         obtain ⟨rfl, _⟩ := hsk
         have fin : q <= 0 -> v = .slice (some (n, o + p * sz)) (q - p) (.upTo sz) -> ∃ u, VR φ v u /\ (Instr.sliceAt t (.slice (some a) 0 0) lo' hi' none).run P w = .ok u w := fun hqc hve => by
          subst hve
          have hq0 : q = 0 := by omega
          have hp0 : p = 0 := by omega
          subst hq0; subst hp0
          refine ⟨_, ?_, key _ _ _ _ sz hk (qF hlo hhi ha hb hpq hqc)⟩
          simp only [if_true, Nat.zero_mul, Nat.add_zero]
          exact .sliceZ _ _ _ hL hlim hsz
         by_cases hql : q <= 0
         ·rw [if_pos hql] at e
          obtain ⟨hve, rfl, rfl, _⟩ := z7 e
          exact ⟨rfl, rfl, fin hql hve⟩
         ·rw [if_neg hql] at e
          obtain ⟨ob, h1, c1, l1, l2, e1, e2, _⟩ := z8 e
          obtain ⟨hn, rfl, rfl, _⟩ := y9 e1
          cases ob <;> try exact (zY e2).elim
          case cells rw cl cs =>
           simp only at e2
           by_cases hfit : o + q * sz <= cs.length
           ·exfalso
            obtain ⟨L', hL', ⟨C, ee, fr, hbk, hlen, _⟩, _⟩ := r.obj n _ hn
            rw [hL] at hL'; cases hL'
            have : 1 * 1 <= q * sz := Nat.mul_le_mul (by omega) hsz
            omega
           ·rw [if_neg hfit] at e2; exact (zY e2).elim
       | some hm =>
        cases hm <;> try (cases hv <;> exact (zY e).elim)
        rename_i km m
        have b3 : ∀ cap, hi.isSome = true -> 0 <= m -> q <= m.toNat -> m.toNat <= cap -> (Instr.sliceBounds true len cap lo' hi' (some (.int km m))).run P w = .ok (p, q, m.toNat) w := fun cap h1 h2 h3 h4 =>
         bounds3_run hlo hhi ha hb (by intro hh; rw [hh] at h1; cases h1) hpq h2 h3 h4
        cases hv with
        | sliceNil =>
         simp only at e
         by_cases hc0 : hi.isSome = true /\ 0 <= m /\ q <= m.toNat /\ m.toNat = 0
         rotate_left
         ·rw [if_neg hc0] at e; exact (zY e).elim
         rw [if_pos hc0] at e
         obtain ⟨rfl, rfl, rfl, _⟩ := z7 e
         have hq0 : q = 0 := by omega
         have hp0 : p = 0 := by omega
         refine ⟨rfl, rfl, _, .sliceNil, (key _ _ _ _ k hk (b3 0 hc0.1 hc0.2.1 hc0.2.2.1 (by omega))).trans ?_⟩
         simp [hq0, hp0, hc0.2.2.2]
        | sliceK o len cc hL hle =>
         rename_i n L
         simp only at e
         by_cases hc0 : hi.isSome = true /\ 0 <= m /\ q <= m.toNat /\ m.toNat <= cc
         rotate_left
         ·rw [if_neg hc0] at e; exact (zY e).elim
         rw [if_pos hc0] at e
         obtain ⟨rfl, rfl, rfl, _⟩ := z7 e
         refine ⟨rfl, rfl, _, ?_, key _ _ _ _ k hk (b3 cc hc0.1 hc0.2.1 hc0.2.2.1 hc0.2.2.2)⟩
         simp only
         by_cases hcp : m.toNat = p
         ·rw [if_pos hcp, if_pos hcp]; exact .sliceK o _ _ hL (by omega)
         ·rw [if_neg hcp, if_neg hcp]
          simp only [Option.map_some, jO]
          rw [show L.off + o + p * k = L.off + (o + p * k) by omega]
          exact .sliceK _ _ _ hL (by omega)
        | sliceK0 o a hL =>
         rename_i n L
         simp only at e
         by_cases hc0 : hi.isSome = true /\ 0 <= m /\ q <= m.toNat /\ m.toNat <= 0
         rotate_left
         ·rw [if_neg hc0] at e; exact (zY e).elim
         rw [if_pos hc0] at e
         obtain ⟨rfl, rfl, rfl, _⟩ := z7 e
         have hq0 : q = 0 := by omega
         have hp0 : p = 0 := by omega
         have hm0 : m.toNat = 0 := by omega
         refine ⟨rfl, rfl, _, ?_, key _ _ _ _ k hk (b3 0 hc0.1 hc0.2.1 hc0.2.2.1 (by omega))⟩
         simp only [hq0, hp0, hm0, if_true]
         exact .sliceK0 _ _ hL
        | sliceU o len cap sz hL hlim hle hsz =>
         rename_i n L
         simp only at e
         by_cases hc0 : hi.isSome = true /\ 0 <= m /\ q <= m.toNat /\ m.toNat <= len
         rotate_left
         ·rw [if_neg hc0] at e; exact (zY e).elim
         rw [if_pos hc0] at e
         obtain ⟨rfl, rfl, rfl, _⟩ := z7 e
         refine ⟨rfl, rfl, _, ?_, key _ _ _ _ k hk (b3 cap hc0.1 hc0.2.1 hc0.2.2.1 (by omega))⟩
         simp only
         by_cases hcp : m.toNat = p
         ·rw [if_pos hcp, if_pos hcp]; exact .sliceK o _ _ hL (by omega)
         ·rw [if_neg hcp, if_neg hcp]
          simp only [Option.map_some, jO]
          rw [show L.off + o + p * k = L.off + (o + p * k) by omega]
          exact .sliceK _ _ _ hL (by omega)
        | sliceZ o sz a hL hlim hsz =>
         rename_i n L
         simp only at e
         by_cases hc0 : hi.isSome = true /\ 0 <= m /\ q <= m.toNat /\ m.toNat <= 0
         rotate_left
         ·rw [if_neg hc0] at e; exact (zY e).elim
         rw [if_pos hc0] at e
         obtain ⟨rfl, rfl, rfl, _⟩ := z7 e
         have hq0 : q = 0 := by omega
         have hp0 : p = 0 := by omega
         have hm0 : m.toNat = 0 := by omega
         refine ⟨rfl, rfl, _, ?_, key _ _ _ _ k hk (b3 0 hc0.1 hc0.2.1 hc0.2.2.1 (by omega))⟩
         simp only [hq0, hp0, hm0, if_true]
         exact .sliceK0 _ _ hL
   cases hx <;> first
    | exact (zY e).elim
    | exact go _ _ _ _ rfl rfl (by constructor <;> assumption)
  case array n el =>
   cases hx <;> try exact (zY e).elim
   rename_i m L o hL
   simp only at e
   cases hk : cx.size el with
   | none => simp only [hk] at e; exact (zY e).elim
   | some k =>
    cases hmx with
    | some _ => simp only [hk] at e; exact (zY e).elim
    | none =>
     cases ha : bound lo 0 with
     | none => simp only [hk, ha] at e; exact (zY e).elim
     | some p =>
      cases hb : bound hi n with
      | none => simp only [hk, ha, hb] at e; exact (zY e).elim
      | some q =>
       simp only [hk, ha, hb] at e
       by_cases hpq : p <= q /\ q <= n
       rotate_left
       ·rw [if_neg hpq] at e; exact (zY e).elim
       rw [if_pos hpq] at e
       obtain ⟨rfl, rfl, rfl, _⟩ := z7 e
       refine ⟨rfl, rfl, .slice (some (if n = p then ⟨L.blk, L.off + o, none⟩ else ⟨L.blk, L.off + o + p * k, none⟩)) (q - p) (n - p), ?_, ?_⟩
       ·by_cases hcp : n = p
        ·rw [if_pos hcp, if_pos hcp]; exact .sliceK o _ _ hL (by omega)
        ·rw [if_neg hcp, if_neg hcp, show L.off + o + p * k = L.off + (o + p * k) by omega]; exact .sliceK _ _ _ hL (by omega)
       ·have hbr := qF (P := P) (w := w) (sl := false) (cap := n) hlo hhi ha hb hpq.1 hpq.2
        simp only [Instr.sliceAt, Sem.run_bind, run_underlying hu, Result.andThen_ok, Instr.sureAddr, Sem.run_pure, hbr, j5 hcx hk, jO]
omit [MapI H AObj] in
theorem indexAddrM_ok {t : Nat} {x i v : V} {x' i' : Value} (hx : VR φ x x') (hi : VR φ i i') (e : indexAddrM cx t x i h c = .ok v h' c' l) :
  h' = h /\ c' = c /\ ∃ u, VR φ v u /\ (Instr.indexAt t x' i').run P w = .ok u w := by
 unfold indexAddrM at e
 cases hd : cx.desc t with
 | none => simp only [hd] at e; exact (zY e).elim
 | some d =>
  have hu := jf hcx hd
  simp only [hd] at e
  cases d <;> try exact (zY e).elim
  case array n el =>
   cases hx <;> try exact (zY e).elim
   rename_i m L o hL
   cases hi <;> try exact (zY e).elim
   rename_i k j
   simp only at e
   by_cases hb : 0 <= j /\ j < n
   rotate_left
   ·rw [if_neg hb] at e; exact (zY e).elim
   rw [if_pos hb] at e
   obtain ⟨sz, h1, c1, l1, l2, e1, e2, _⟩ := z8 e
   obtain ⟨hs, rfl, rfl, _⟩ := yH e1
   obtain ⟨rfl, rfl, rfl, _⟩ := z7 e2
   refine ⟨rfl, rfl, _, .ptr _ hL, ?_⟩
   simp only [Instr.indexAt, asIntOf, Sem.run_bind, Sem.run_pure, Result.andThen_ok, run_underlying hu, Instr.sureAddr, hb, and_self, if_true, j5 hcx hs, jO, Nat.add_assoc]
  case slice el =>
   have go : ∀ (m o len : Nat) (cap : Cap) (L : Loc) (cc : Nat) (a : Addr), x = .slice (some (m, o)) len cap -> x' = .slice (some a) len cc -> φ m = some L -> (0 < len -> a = ⟨L.blk, L.off + o, none⟩) ->
     h' = h /\ c' = c /\ ∃ u, VR φ v u /\ (Instr.indexAt t x' i').run P w = .ok u w := fun m o len cap L cc a hxe hue hL ha => by
    subst hxe; subst hue
    cases hi <;> try exact (zY e).elim
    rename_i k j
    simp only at e
    by_cases hb : 0 <= j /\ j < len
    rotate_left
    ·rw [if_neg hb] at e; exact (zY e).elim
    rw [if_pos hb] at e
    obtain ⟨sz, h1, c1, l1, l2, e1, e2, _⟩ := z8 e
    obtain ⟨hs, rfl, rfl, _⟩ := yH e1
    obtain ⟨rfl, rfl, rfl, _⟩ := z7 e2
    have ha := ha (by omega)
    subst ha
    refine ⟨rfl, rfl, _, .ptr _ hL, ?_⟩
    simp only [Instr.indexAt, asIntOf, Sem.run_bind, Sem.run_pure, Result.andThen_ok, run_underlying hu, hb, and_self, if_true, j5 hcx hs, jO, Nat.add_assoc]
   cases hx <;> try exact (zY e).elim
   case sliceK hL hle => exact go _ _ _ _ _ _ _ rfl rfl hL (fun _ => rfl)
   case sliceK0 hL => exact go _ _ _ _ _ _ _ rfl rfl hL (fun h => by omega)
   case sliceU hL _ _ _ => exact go _ _ _ _ _ _ _ rfl rfl hL (fun _ => rfl)
   case sliceZ hL _ _ => exact go _ _ _ _ _ _ _ rfl rfl hL (fun h => by omega)
omit hcx [MapI H AObj] in
theorem MRs.length : ∀ {es : List (V × V × Nat)} {us : List MapEntry}, MRs φ es us -> es.length = us.length
 | _, _, .nil => rfl
 | _, _, .cons _ _ _ d => by simp [MRs.length d]
omit hcx in
theorem kq (r : Rel ng w0 φ h w) {n : Nat} {rw : Bool} {es : List (V × V × Nat)} {ck : Nat} {L : Loc} (hn : MapI.get h n = some (.map rw es ck)) (hL : φ n = some L) :
  ∃ E, w.heap[L.blk]? = some (.map E ck) /\ MRs φ es E.toList := by
 obtain ⟨K, hK, ho, _⟩ := r.obj n _ hn
 rw [hL] at hK; cases hK
 exact ho
omit hcx [MapI H AObj] in
theorem qf {b : Nat} {E : Array MapEntry} {ck : Nat} (hb : w.heap[b]? = some (.map E ck)) : (getObj b).run P w = .ok (.map E ck) w := by simp [getObj, Sem.run, hb]
omit hcx [MapI H AObj] in
theorem qD {b : Nat} {E : Array MapEntry} {ck : Nat} (o : Obj) (hb : w.heap[b]? = some (.map E ck)) : (setObj b o).run P w = .ok () (World.setBlk w b o) := by simp [setObj, Sem.run, hb, World.setBlk]
theorem lenM_ok (r : Rel ng w0 φ h w) {t ty : Nat} {x v : V} {x' : Value} (hx : VR φ x x') {ts : List Nat} {xs : List Value} (e : lenM cx t x h c = .ok v h' c' l) :
  h' = h /\ c' = c /\ ∃ u, VR φ v u /\ (Builtin.len_ ⟨t :: ts⟩ ty ⟨x' :: xs⟩).run P w = .ok u w := by
 have run : ∀ d, cx.desc t = some d -> (Builtin.len_ ⟨t :: ts⟩ ty ⟨x' :: xs⟩).run P w = (match d, x' with
   | .string, .string s => (pure (goInt s.size) : Sem Value)
   | .array n _, _ => pure (goInt n)
   | .pointer arr, _ => do
    let .array n _ <- underlying arr | stuck "len: pointer to array expected"
    pure (goInt n)
   | .slice _, .slice _ n _ => pure (goInt n)
   | .map _ _, .map none | .chan _ _, .chan none => pure (goInt 0)
   | .map _ _, .map (some r) => do
    let .map entries _ <- getObj r | stuck "len: map expected"
    pure (goInt entries.size)
   | .chan _ _, .chan (some r) => do
    let .chan _ buf _ _ _ timer <- getObj r | stuck "len: channel expected"
    pure (goInt (if timer then 0 else buf.size))
   | _, _ => stuck "len: string, array, pointer to array, slice, map or channel expected").run P w := fun d hd => by
  have hu := jf hcx hd
  simp only [Builtin.len_, List.getElem?_toArray, List.getElem?_cons_zero, Sem.run_bind, run_underlying hu, Result.andThen_ok]
  rfl
 unfold lenM at e
 cases hd : cx.desc t with
 | none => simp only [hd] at e; exact (zY e).elim
 | some d =>
  rw [run d hd]
  simp only [hd] at e
  cases d <;> try exact (zY e).elim
  case string =>
   cases hx <;> try exact (zY e).elim
   obtain ⟨rfl, rfl, rfl, _⟩ := z7 e
   exact ⟨rfl, rfl, _, .int _ _, rfl⟩
  case array n el =>
   obtain ⟨rfl, rfl, rfl, _⟩ := z7 e
   exact ⟨rfl, rfl, _, .int _ _, rfl⟩
  case slice el =>
   cases hx <;> try exact (zY e).elim
   all_goals
    obtain ⟨rfl, rfl, rfl, _⟩ := z7 e
    exact ⟨rfl, rfl, _, .int _ _, rfl⟩
  case map kt el =>
   cases hx <;> try exact (zY e).elim
   case mapNil =>
    obtain ⟨rfl, rfl, rfl, _⟩ := z7 e
    exact ⟨rfl, rfl, _, .int _ _, rfl⟩
   case map n L hL =>
    obtain ⟨ob, h1, c1, l1, l2, e1, e2, _⟩ := z8 e
    obtain ⟨hn, rfl, rfl, _⟩ := y9 e1
    cases ob <;> try exact (zY e2).elim
    obtain ⟨rfl, rfl, rfl, _⟩ := z7 e2
    obtain ⟨E, hb, hm⟩ := kq r hn hL
    refine ⟨rfl, rfl, _, .int _ _, ?_⟩
    have hlen := hm.length
    have hsz : E.toList.length = E.size := Array.length_toList
    simp only [Sem.run_bind, qf (P := P) hb, Result.andThen_ok, Sem.run_pure, goInt]
    rw [hlen, hsz]
end
open Go.RowKit
section
variable {H : Type} [MapI H AObj] {P : Program} {ng : Nat} {w0 w : World} {φ : Nm} {h h' : H} {c c' : Nat} {l : List Acc}
theorem kh {d : TypeDesc} {k : V} {k' : Value} (hk : VR φ k k') (h : qY d k = true) {kt : Nat} (hu : P.underlying kt = some d) (b : Bool) (n : Nat) :
  (Instr.checkKey b (n + 1) kt k').run P w = .ok () w := by
 cases d <;> try (cases k <;> simp [qY] at h; done)
 all_goals
  cases hk <;> first
   | (simp [qY] at h; done)
   | simp [Instr.checkKey, run_underlying hu]
theorem keyEq_now {d : TypeDesc} {k q : V} {k' q' : Value} {b : Bool} (hd : qY d k = true) (hk : VR φ k k') (hq : VR φ q q') (h : keyEq k q = some b) : Instr.sameNow d k' q' = some b := by
 cases d <;> try (cases k <;> simp [qY] at hd; done)
 case int ik =>
  cases hk <;> try (simp [qY] at hd; done)
  cases hq <;> simp only [keyEq] at h <;> try (cases h; done)
  split at h
  ·next e => subst e; cases h; simp [Instr.sameNow]
  ·cases h
 case bool =>
  cases hk <;> try (simp [qY] at hd; done)
  cases hq <;> simp only [keyEq] at h <;> try (cases h; done)
  cases h; rfl
 case string =>
  cases hk <;> try (simp [qY] at hd; done)
  cases hq <;> simp only [keyEq] at h <;> try (cases h; done)
  cases h
  rename_i s s'
  simp only [Instr.sameNow, strEq_ok, beq_toListBytes, str_list]
theorem kM {d : TypeDesc} {k : V} {k' : Value} (hd : qY d k = true) (hk : VR φ k k') : ∀ {es : List (V × V × Nat)} {us : List MapEntry} (_ : MRs φ es us) (j : Nat),
  (kA k es = some none -> Instr.findNow d k' us j = some none) /\
  (∀ i v b, kA k es = some (some (i, v, b)) -> ∃ e, us[i]? = some e /\ VR φ v e.val /\ e.born = b /\ Instr.findNow d k' us j = some (some (j + i, e.val)) /\ (∃ q, (es[i]?).map (·.1) = some q /\ keyEq k q = some true /\ VR φ q e.key))
 | _, _, .nil, j => by
  refine ⟨fun _ => rfl, fun i v b h => ?_⟩
  unfold kA at h; cases h
 | _, _, .cons (k := q) (v := v) (b := b) (e := e) hq hv hb hr, j => by
  obtain ⟨ih1, ih2⟩ := kM hd hk hr (j + 1)
  unfold kA
  cases hkq : keyEq k q with
  | none => exact ⟨fun h => by simp at h, fun i v b h => by simp at h⟩
  | some bb =>
   have hn := keyEq_now hd hk hq hkq
   cases bb with
   | true =>
    refine ⟨fun h => by simp at h, fun i v' b' h => ?_⟩
    simp only [Option.some.injEq, Prod.mk.injEq] at h
    obtain ⟨rfl, rfl, rfl⟩ := h
    exact ⟨e, by simp, hv, hb, by simp [Instr.findNow, hn], q, by simp, hkq, hq⟩
   | false =>
    simp only
    constructor
    ·intro h
     split at h
     ·cases h
     ·next r hr' => simp [Instr.findNow, hn, ih1 h]
    ·intro i v' b' h
     split at h
     ·next i0 x h0 =>
      simp only [Option.some.injEq, Prod.mk.injEq] at h
      obtain ⟨rfl, rfl⟩ := h
      obtain ⟨e', h1, h2, h3, h4, q', h5, h6, h7⟩ := ih2 _ _ _ h0
      exact ⟨e', by simpa using h1, h2, h3, by simp [Instr.findNow, hn, h4]; omega, q', by simpa using h5, h6, h7⟩
     ·next r hr' => exact absurd h (by intro hh; exact hr' _ _ hh)
theorem qc {d : TypeDesc} {kt : Nat} {k' : Value} {us : List MapEntry} {r : Option (Nat × Value)} (hu : P.underlying kt = some d) (h : Instr.findNow d k' us 0 = some r) :
  (Instr.findKey kt k' us).run P w = .ok r w := by
 simp [Instr.findKey, run_underlying hu, h]
theorem key_same {d : TypeDesc} {k q : V} {k' q' : Value} (hd : qY d k = true) (hk : VR φ k k') (hq : VR φ q q') (h : keyEq k q = some true) (w : World) : (Instr.keyThatStays q' k').run P w = .ok k' w := by
 have : ∀ n, Instr.sameBits n q' k' = true := fun n => by
  cases hk <;> cases hq <;> simp only [keyEq] at h <;> try (cases h; done)
  ·simp at h; subst h; cases n <;> simp [Instr.sameBits]
  ·split at h
   ·next e => subst e; simp at h; subst h; cases n <;> simp [Instr.sameBits]
   ·cases h
  ·simp only [Option.some.injEq, strEq_ok, beq_iff_eq] at h; subst h; cases n <;> (simp only [Instr.sameBits]; rw [beq_toListBytes]; simp)
 simp [Instr.keyThatStays, this]
theorem setNth_get {α : Type} : ∀ (l : List α) (i : Nat) (x : α), setNth l i x = l.set i x
 | [], _, _ => rfl
 | _ :: _, 0, _ => rfl
 | y :: l, i + 1, x => by simp [setNth, setNth_get l i x]
theorem delNth_get {α : Type} : ∀ (l : List α) (i : Nat), delNth l i = l.eraseIdx i
 | [], _ => rfl
 | _ :: _, 0 => rfl
 | y :: l, i + 1 => by simp [delNth, delNth_get l i]
theorem MRs.set : ∀ {es : List (V × V × Nat)} {us : List MapEntry} (_ : MRs φ es us) (i : Nat) {k v : V} {b : Nat} {e : MapEntry}, VR φ k e.key -> VR φ v e.val -> e.born = b -> MRs φ (es.set i (k, v, b)) (us.set i e)
 | _, _, .nil, i, _, _, _, _, _, _, _ => by simp; exact .nil
 | _, _, .cons a b c d, 0, _, _, _, _, h1, h2, h3 => by simp; exact .cons h1 h2 h3 d
 | _, _, .cons a b c d, i + 1, _, _, _, _, h1, h2, h3 => by simp; exact .cons a b c (d.set i h1 h2 h3)
theorem MRs.erase : ∀ {es : List (V × V × Nat)} {us : List MapEntry} (_ : MRs φ es us) (i : Nat), MRs φ (es.eraseIdx i) (us.eraseIdx i)
 | _, _, .nil, i => by simp; exact .nil
 | _, _, .cons a b c d, 0 => by simp; exact d
 | _, _, .cons a b c d, i + 1 => by simp; exact .cons a b c (d.erase i)
theorem MRs.push : ∀ {es : List (V × V × Nat)} {us : List MapEntry} (_ : MRs φ es us) {k v : V} {b : Nat} {e : MapEntry}, VR φ k e.key -> VR φ v e.val -> e.born = b -> MRs φ (es ++ [(k, v, b)]) (us ++ [e])
 | _, _, .nil, _, _, _, _, h1, h2, h3 => .cons h1 h2 h3 .nil
 | _, _, .cons a b c d, _, _, _, _, h1, h2, h3 => .cons a b c (d.push h1 h2 h3)
theorem modify_list (E : Array MapEntry) (i : Nat) (f : MapEntry -> MapEntry) (e : MapEntry) (h : E[i]? = some e) : (E.modify i f).toList = E.toList.set i (f e) := by
 apply List.ext_getElem?
 intro j
 rw [Array.getElem?_toList, Array.getElem?_modify, List.getElem?_set, Array.getElem?_toList]
 by_cases hj : i = j
 ·subst hj
  obtain ⟨hlt, hg⟩ := Array.getElem?_eq_some_iff.1 h
  simp [hlt, hg]
 ·simp [hj]
variable {cx : Cx} (hcx : qJ P cx)
include hcx
theorem lookupM_ok (r : Rel ng w0 φ h w) {t : Nat} {x i v : V} {x' i' : Value} {ok : Bool} (hx : VR φ x x') (hi : VR φ i i') (e : lookupM cx t x i ok h c = .ok v h' c' l) :
  h' = h /\ c' = c /\ ∃ u, VR φ v u /\ (Instr.lookup t x' i' ok).run P w = .ok u w := by
 unfold lookupM at e
 cases hd : cx.desc t with
 | none => simp only [hd] at e; exact (zY e).elim
 | some d =>
  have hu := jf hcx hd
  simp only [hd] at e
  cases d <;> try exact (zY e).elim
  rename_i kt et
  simp only at e
  cases hkd : cx.desc kt with
  | none => simp only [hkd] at e; exact (zY e).elim
  | some kd =>
   have hku := jf hcx hkd
   simp only [hkd] at e
   by_cases hko : qY kd i = true
   rotate_left
   ·rw [if_neg hko] at e; exact (zY e).elim
   rw [if_pos hko] at e
   have hck : ∀ b, (Instr.checkKey b 10000 kt i').run P w = .ok () w := fun b => kh hi hko hku b 9999
   obtain ⟨fr, h1, c1, l1, l2, e1, e2, _⟩ := z8 e
   -- what the map holds
   have hm : h1 = h /\ c1 = c /\ ∃ (es : List (V × V × Nat)) (E : Array MapEntry), MRs φ es E.toList /\ fr = kA i es /\
     (∀ r, Instr.findNow kd i' E.toList 0 = some r -> (Instr.lookup t x' i' ok).run P w = ((match r with
      | some (_, v) => (pure (v, true) : Sem (Value × Bool))
      | none => do pure (<- zeroValue et, false) : Sem (Value × Bool)).run P w).andThen fun p w' => .ok (if ok then .tuple #[p.1, .bool p.2] else p.1) w') := by
    cases hx <;> try exact (zY e1).elim
    case mapNil =>
     obtain ⟨rfl, rfl, rfl, _⟩ := z7 e1
     refine ⟨rfl, rfl, [], #[], .nil, rfl, fun r hr => ?_⟩
     simp only [Instr.lookup, Sem.run_bind, run_underlying hu, Result.andThen_ok, Sem.run_pure, hck, qc hku hr]
     cases r with
     | none => simp only [Sem.run_bind]; cases (zeroValue et).run P w <;> rfl
     | some p => rfl
    case map n L hL =>
     obtain ⟨ob, h2, c2, l3, l4, e3, e4, _⟩ := z8 e1
     obtain ⟨hn, rfl, rfl, _⟩ := y9 e3
     cases ob <;> try exact (zY e4).elim
     rename_i rw es ck
     obtain ⟨rfl, rfl, rfl, _⟩ := z7 e4
     obtain ⟨E, hb, hm⟩ := kq r hn hL
     refine ⟨rfl, rfl, es, E, hm, rfl, fun r hr => ?_⟩
     simp only [Instr.lookup, Sem.run_bind, run_underlying hu, Result.andThen_ok, qf (P := P) hb, Sem.run_pure, hck, qc hku hr]
     cases r with
     | none => simp only [Sem.run_bind]; cases (zeroValue et).run P w <;> rfl
     | some p => rfl
   obtain ⟨rfl, rfl, es, E, hmr, hfr, run⟩ := hm
   have hfk := kM hko hi hmr 0
   rw [<- hfr] at hfk
   cases fr with
   | none => exact (zY e2).elim
   | some fo =>
    cases fo with
    | some p =>
     obtain ⟨j, v0, b⟩ := p
     obtain ⟨rfl, rfl, rfl, _⟩ := z7 e2
     obtain ⟨en, _, hv, _, hf, _⟩ := hfk.2 j v0 b rfl
     refine ⟨rfl, rfl, _, ?_, (run _ hf).trans rfl⟩
     cases ok
     ·exact hv
     ·exact .tuple (.cons hv (.cons (.bool _) .nil))
    | none =>
     obtain ⟨z, h2, c2, l3, l4, e3, e4, _⟩ := z8 e2
     obtain ⟨hz, rfl, rfl, _⟩ := yH e3
     obtain ⟨rfl, rfl, rfl, _⟩ := z7 e4
     obtain ⟨zv, hzr, hzv⟩ := run_zero hcx hz φ w
     refine ⟨rfl, rfl, if ok then .tuple #[zv, .bool false] else zv, ?_, (run _ (hfk.1 rfl)).trans ?_⟩
     ·cases ok
      ·exact hzv
      ·exact .tuple (.cons hzv (.cons (.bool _) .nil))
     ·simp only [Sem.run_bind, hzr, Result.andThen_ok, Sem.run_pure]
theorem mapUpdateM_ok (r : Rel ng w0 φ h w) {t : Nat} {m k x v : V} {m' k' x' : Value} (hm : VR φ m m') (hk : VR φ k k') (hx : VR φ x x') (e : mapUpdateM cx t m k x h c = .ok v h' c' l) :
  c' = c /\ v = .tuple [] /\ ∃ w', Rel ng w0 φ h' w' /\ (Instr.mapUpdate t m' k' x').run P w = .ok () w' := by
 unfold mapUpdateM at e
 cases hd : cx.desc t with
 | none => simp only [hd] at e; exact (zY e).elim
 | some d =>
  have hu := jf hcx hd
  simp only [hd] at e
  cases d <;> try exact (zY e).elim
  rename_i kt et
  cases hm <;> try exact (zY e).elim
  rename_i n L hL
  simp only at e
  cases hkd : cx.desc kt with
  | none => simp only [hkd] at e; exact (zY e).elim
  | some kd =>
   have hku := jf hcx hkd
   simp only [hkd] at e
   by_cases hko : qY kd k = true
   rotate_left
   ·rw [if_neg hko] at e; exact (zY e).elim
   rw [if_pos hko] at e
   have hck : ∀ b, (Instr.checkKey b 10000 kt k').run P w = .ok () w := fun b => kh hk hko hku b 9999
   obtain ⟨ob, h1, c1, l1, l2, e1, e2, _⟩ := z8 e
   obtain ⟨hn, rfl, rfl, _⟩ := y9 e1
   cases ob <;> try exact (zY e2).elim
   rename_i rw es ck
   cases rw <;> try exact (zY e2).elim
   obtain ⟨E, hb, hmr⟩ := kq r hn hL
   have hfk := kM hko hk hmr 0
   simp only at e2
   cases hf : kA k es with
   | none => simp only [hf] at e2; exact (zY e2).elim
   | some fo =>
    cases fo with
    | some p =>
     obtain ⟨j, v0, b⟩ := p
     simp only [hf] at e2
     obtain ⟨u, h2, c2, l3, l4, e3, e4, _⟩ := z8 e2
     obtain ⟨_, rfl, rfl, _⟩ := ju e3
     obtain ⟨rfl, rfl, rfl, _⟩ := z7 e4
     obtain ⟨en, hen, hv, hbn, hfn, q, hq1, hq2, hq3⟩ := hfk.2 j v0 b hf
     have henA : E[j]? = some en := by rw [<- Array.getElem?_toList]; exact hen
     refine ⟨rfl, rfl, _, r.setBlk hn rfl hL rfl ⟨E.modify j fun e => { e with key := k', val := x' }, rfl, ?_⟩, ?_⟩
     ·rw [modify_list E j _ en henA, setNth_get]
      exact hmr.set j hk hx hbn
     ·have hst := key_same (P := P) hko hk hq3 hq2 w
      rw [Nat.zero_add] at hfn
      simp only [Instr.mapUpdate, Sem.run_bind, run_underlying hu, Result.andThen_ok, qf (P := P) hb, hck, qc hku hfn, henA, Option.map_some, Option.getD_some, hst]
      exact qD (P := P) _ hb
    | none =>
     simp only [hf] at e2
     obtain ⟨u, h2, c2, l3, l4, e3, e4, _⟩ := z8 e2
     obtain ⟨_, rfl, rfl, _⟩ := ju e3
     obtain ⟨rfl, rfl, rfl, _⟩ := z7 e4
     refine ⟨rfl, rfl, _, r.setBlk hn rfl hL rfl ⟨E.push { key := k', val := x', born := ck }, rfl, ?_⟩, ?_⟩
     ·rw [Array.toList_push]; exact hmr.push hk hx rfl
     ·simp only [Instr.mapUpdate, Sem.run_bind, run_underlying hu, Result.andThen_ok, qf (P := P) hb, hck, qc hku (hfk.1 hf)]
      exact qD (P := P) _ hb
theorem mapEntryM_ok (r : Rel ng w0 φ h w) {t : Nat} {m k v : V} {m' k' : Value} (hm : VR φ m m') (hk : VR φ k k') (e : mapEntryM cx t m k h c = .ok v h' c' l) :
  c' = c /\ ∃ w' u, Rel ng w0 φ h' w' /\ VR φ v u /\ (Instr.mapEntry t m' k').run P w = .ok u w' := by
 unfold mapEntryM at e
 cases hd : cx.desc t with
 | none => simp only [hd] at e; exact (zY e).elim
 | some d =>
  have hu := jf hcx hd
  simp only [hd] at e
  cases d <;> try exact (zY e).elim
  rename_i kt et
  cases hm <;> try exact (zY e).elim
  rename_i n L hL
  simp only at e
  cases hkd : cx.desc kt with
  | none => simp only [hkd] at e; exact (zY e).elim
  | some kd =>
   have hku := jf hcx hkd
   simp only [hkd] at e
   by_cases hko : qY kd k = true
   rotate_left
   ·rw [if_neg hko] at e; exact (zY e).elim
   rw [if_pos hko] at e
   have hck : ∀ b, (Instr.checkKey b 10000 kt k').run P w = .ok () w := fun b => kh hk hko hku b 9999
   obtain ⟨ob, h1, c1, l1, l2, e1, e2, _⟩ := z8 e
   obtain ⟨hn, rfl, rfl, _⟩ := y9 e1
   cases ob <;> try exact (zY e2).elim
   rename_i rw es ck
   cases rw <;> try exact (zY e2).elim
   obtain ⟨E, hb, hmr⟩ := kq r hn hL
   have hfk := kM hko hk hmr 0
   simp only at e2
   cases hf : kA k es with
   | none => simp only [hf] at e2; exact (zY e2).elim
   | some fo =>
    cases fo with
    | some p =>
     obtain ⟨j, v0, b⟩ := p
     simp only [hf] at e2
     obtain ⟨u, h2, c2, l3, l4, e3, e4, _⟩ := z8 e2
     obtain ⟨_, rfl, rfl, _⟩ := ju e3
     obtain ⟨rfl, rfl, rfl, _⟩ := z7 e4
     obtain ⟨en, hen, hv, hbn, hfn, q, hq1, hq2, hq3⟩ := hfk.2 j v0 b hf
     have henA : E[j]? = some en := by rw [<- Array.getElem?_toList]; exact hen
     refine ⟨rfl, _, .tuple #[en.val, goInt b], r.setBlk hn rfl hL rfl ⟨E.modify j fun e => { e with key := k' }, rfl, ?_⟩, .tuple (.cons hv (.cons (.int _ _) .nil)), ?_⟩
     ·rw [modify_list E j _ en henA, setNth_get]
      exact hmr.set j hk hv hbn
     ·have hst := key_same (P := P) hko hk hq3 hq2 w
      rw [Nat.zero_add] at hfn
      simp only [Instr.mapEntry, Sem.run_bind, run_underlying hu, Result.andThen_ok, qf (P := P) hb, hck, qc hku hfn, henA, Option.map_some, Option.getD_some, hst]
      rw [qD (P := P) _ hb]
      simp only [Result.andThen_ok, Sem.run_pure, hbn]
    | none =>
     simp only [hf] at e2
     obtain ⟨z, h2, c2, l3, l4, e3, e4, _⟩ := z8 e2
     obtain ⟨hz, rfl, rfl, _⟩ := yH e3
     obtain ⟨zv, hzr, hzv⟩ := run_zero hcx hz φ w
     obtain ⟨u, h3, c3, l5, l6, e5, e6, _⟩ := z8 e4
     obtain ⟨_, rfl, rfl, _⟩ := ju e5
     obtain ⟨rfl, rfl, rfl, _⟩ := z7 e6
     refine ⟨rfl, _, .tuple #[zv, goInt ck], r.setBlk hn rfl hL rfl ⟨E.push { key := k', val := zv, born := ck }, rfl, ?_⟩, .tuple (.cons hzv (.cons (.int _ _) .nil)), ?_⟩
     ·rw [Array.toList_push]; exact hmr.push hk hzv rfl
     ·simp only [Instr.mapEntry, Sem.run_bind, run_underlying hu, Result.andThen_ok, qf (P := P) hb, hck, qc hku (hfk.1 hf), hzr]
      rw [qD (P := P) _ hb]
      rfl
omit hcx in
theorem stampV_ok {b : Int} {x : V} {x' : Value} (hx : VR φ x x') : ∀ {es out : List (V × V × Nat)} {us : List MapEntry}, MRs φ es us -> stampV b x es = some out ->
  ∃ i e, us[i]? = some e /\ (us.findIdx? fun e => (e.born : Int) == b) = some i /\ MRs φ out (us.set i { e with val := x' })
 | _, out, _, .nil, h => by unfold stampV at h; cases h
 | _, out, _, .cons (k := q) (v := v) (b := bb) (e := e) hq hv hb hr, h => by
  unfold stampV at h
  split at h
  ·next hh =>
   cases h
   refine ⟨0, e, by simp, ?_, ?_⟩
   ·rw [List.findIdx?_cons]; rw [hb, hh]; rfl
   ·simp; exact .cons hq hx hb hr
  ·next hh =>
   split at h
   ·next out' ho =>
    cases h
    obtain ⟨i, e', h1, h2, h3⟩ := stampV_ok hx hr ho
    refine ⟨i + 1, e', by simpa using h1, ?_, ?_⟩
    ·rw [List.findIdx?_cons]; rw [hb]; simp only [Bool.not_eq_true] at hh; rw [hh]; simp [h2]
    ·simp; exact .cons hq hv hb h3
   ·cases h
omit hcx in
theorem entryStoreM_ok (r : Rel ng w0 φ h w) {t : Nat} {m s x v : V} {m' s' x' : Value} (hm : VR φ m m') (hs : VR φ s s') (hx : VR φ x x') (e : entryStoreM m s x h c = .ok v h' c' l) :
  c' = c /\ v = .tuple [] /\ ∃ w', Rel ng w0 φ h' w' /\ (Instr.entryStore t m' s' x').run P w = .ok () w' := by
 unfold entryStoreM at e
 cases hm <;> try exact (zY e).elim
 rename_i n L hL
 cases hs <;> try exact (zY e).elim
 rename_i k b
 obtain ⟨ob, h1, c1, l1, l2, e1, e2, _⟩ := z8 e
 obtain ⟨hn, rfl, rfl, _⟩ := y9 e1
 cases ob <;> try exact (zY e2).elim
 rename_i rw es ck
 cases rw <;> try exact (zY e2).elim
 obtain ⟨E, hb, hmr⟩ := kq r hn hL
 obtain ⟨out, h2, c2, l3, l4, e3, e4, _⟩ := z8 e2
 obtain ⟨hst, rfl, rfl, _⟩ := yH e3
 obtain ⟨u, h3, c3, l5, l6, e5, e6, _⟩ := z8 e4
 obtain ⟨_, rfl, rfl, _⟩ := ju e5
 obtain ⟨rfl, rfl, rfl, _⟩ := z7 e6
 obtain ⟨i, en, h7, h8, h9⟩ := stampV_ok hx hmr hst
 have henA : E[i]? = some en := by rw [<- Array.getElem?_toList]; exact h7
 refine ⟨rfl, rfl, _, r.setBlk hn rfl hL rfl ⟨E.modify i fun e => { e with val := x' }, rfl, ?_⟩, ?_⟩
 ·rw [modify_list E i _ en henA]; exact h9
 ·have : E.findIdx? (fun e => (e.born : Int) == b) = some i := by rw [<- List.findIdx?_toArray] at h8; exact h8
  simp only [Instr.entryStore, Sem.run_bind, Sem.run_pure, Result.andThen_ok, qf (P := P) hb, Go.asInt, asIntOf, this]
  exact qD (P := P) _ hb
theorem deleteM_ok (r : Rel ng w0 φ h w) {t ty : Nat} {m k v : V} {m' k' : Value} (hm : VR φ m m') (hk : VR φ k k') {ts : List Nat} {xs : List Value} (e : deleteM cx t m k h c = .ok v h' c' l) :
  c' = c /\ v = .tuple [] /\ ∃ w', Rel ng w0 φ h' w' /\ (Builtin.delete_ ⟨t :: ts⟩ ty ⟨m' :: k' :: xs⟩).run P w = .ok (.tuple #[]) w' := by
 unfold deleteM at e
 cases hd : cx.desc t with
 | none => simp only [hd] at e; exact (zY e).elim
 | some d =>
  have hu := jf hcx hd
  simp only [hd] at e
  cases d <;> try exact (zY e).elim
  rename_i kt et
  simp only at e
  cases hkd : cx.desc kt with
  | none => simp only [hkd] at e; exact (zY e).elim
  | some kd =>
   have hku := jf hcx hkd
   simp only [hkd] at e
   by_cases hko : qY kd k = true
   rotate_left
   ·rw [if_neg hko] at e; exact (zY e).elim
   rw [if_pos hko] at e
   have hck : ∀ b, (Instr.checkKey b 10000 kt k').run P w = .ok () w := fun b => kh hk hko hku b 9999
   cases hm <;> try exact (zY e).elim
   case mapNil =>
    obtain ⟨rfl, rfl, rfl, _⟩ := z7 e
    refine ⟨rfl, rfl, w, r, ?_⟩
    simp [Builtin.delete_, run_underlying hu, hck]
   case map n L hL =>
    obtain ⟨ob, h1, c1, l1, l2, e1, e2, _⟩ := z8 e
    obtain ⟨hn, rfl, rfl, _⟩ := y9 e1
    cases ob <;> try exact (zY e2).elim
    rename_i rw es ck
    cases rw <;> try exact (zY e2).elim
    obtain ⟨E, hb, hmr⟩ := kq r hn hL
    have hfk := kM hko hk hmr 0
    simp only at e2
    cases hf : kA k es with
    | none => simp only [hf] at e2; exact (zY e2).elim
    | some fo =>
     cases fo with
     | some p =>
      obtain ⟨j, v0, b⟩ := p
      simp only [hf] at e2
      obtain ⟨u, h2, c2, l3, l4, e3, e4, _⟩ := z8 e2
      obtain ⟨_, rfl, rfl, _⟩ := ju e3
      obtain ⟨rfl, rfl, rfl, _⟩ := z7 e4
      obtain ⟨en, hen, hv, hbn, hfn, _⟩ := hfk.2 j v0 b hf
      refine ⟨rfl, rfl, _, r.setBlk hn rfl hL rfl ⟨E.eraseIdxIfInBounds j, rfl, ?_⟩, ?_⟩
      ·have : (E.eraseIdxIfInBounds j).toList = E.toList.eraseIdx j := by simp
       rw [this, delNth_get]
       exact hmr.erase j
      ·rw [Nat.zero_add] at hfn
       simp only [Builtin.delete_, List.getElem?_toArray, List.getElem?_cons_zero, List.getElem?_cons_succ, Sem.run_bind, run_underlying hu, Result.andThen_ok, qf (P := P) hb, hck, qc hku hfn]
       rw [qD (P := P) _ hb]
       rfl
     | none =>
      simp only [hf] at e2
      obtain ⟨u, h2, c2, l3, l4, e3, e4, _⟩ := z8 e2
      obtain ⟨_, rfl, rfl, _⟩ := ju e3
      obtain ⟨rfl, rfl, rfl, _⟩ := z7 e4
      refine ⟨rfl, rfl, _, r.setBlk hn rfl hL rfl ⟨E, rfl, hmr⟩, ?_⟩
      simp only [Builtin.delete_, List.getElem?_toArray, List.getElem?_cons_zero, List.getElem?_cons_succ, Sem.run_bind, run_underlying hu, Result.andThen_ok, qf (P := P) hb, hck, qc hku (hfk.1 hf)]
      rw [qD (P := P) _ hb]
      rfl
end
open Go.RowKit
section
variable {H : Type} [MapI H AObj] {P : Program} {ng : Nat} {w0 w : World} {φ : Nm} {h h' : H} {c c' : Nat} {l : List Acc}
theorem u8s_ok (s : List UInt8) : VRs φ (u8s s) (s.map fun b => Value.int .u8 b.toNat) := by
 induction s with
 | nil => exact .nil
 | cons b s ih => exact .cons (.int _ _) ih
theorem cells_same {w2 : World} (hw : w2.heap = w.heap) (a : Addr) : w2.cell? a = w.cell? a := by simp [World.cell?, hw]
theorem firstM_ok (r : Rel ng w0 φ h w) {k n : Nat} {x : V} {x' : Value} {cs : List V} (hx : VR φ x x') (e : firstM k n x h c = .ok cs h' c' l) :
  h' = h /\ c' = c /\ ∃ us, VRs φ cs us /\ ∀ w2 : World, w2.heap = w.heap -> (Builtin.firstCells k n x').run P w2 = .ok us.toArray w2 := by
 have go : ∀ (m o len : Nat) (cap : Cap) (L : Loc) (cc : Nat) (a : Addr), x = .slice (some (m, o)) len cap -> x' = .slice (some a) len cc -> φ m = some L -> (0 < len -> a = ⟨L.blk, L.off + o, none⟩) ->
   h' = h /\ c' = c /\ ∃ us, VRs φ cs us /\ ∀ w2 : World, w2.heap = w.heap -> (Builtin.firstCells k n x').run P w2 = .ok us.toArray w2 := fun m o len cap L cc a hxe hue hL ha => by
  subst hxe; subst hue
  unfold firstM at e
  simp only at e
  by_cases h0 : n = 0
  ·rw [if_pos h0] at e
   obtain ⟨rfl, rfl, rfl, _⟩ := z7 e
   refine ⟨rfl, rfl, [], .nil, fun w2 _ => ?_⟩
   subst h0
   simp only [Builtin.firstCells, Nat.zero_mul]
   rfl
  ·rw [if_neg h0] at e
   by_cases hle : n <= len
   rotate_left
   ·rw [if_neg hle] at e; exact (zY e).elim
   rw [if_pos hle] at e
   have ha := ha (by omega)
   subst ha
   obtain ⟨rfl, rfl, hl, L', us, hL', hul, hv, _, hcell⟩ := loadC_ok (P := P) r e
   rw [hL] at hL'; cases hL'
   refine ⟨rfl, rfl, us, hv, fun w2 hw2 => ?_⟩
   have := run_loadCells_list (P := P) w2 ⟨L.blk, L.off + o, none⟩ us (fun j u hu => by rw [jO, cells_same hw2]; exact hcell j u hu)
   rw [hul] at this
   exact this
 cases hx with
 | sliceNil =>
  unfold firstM at e
  simp only at e
  by_cases h0 : n = 0
  ·rw [if_pos h0] at e
   obtain ⟨rfl, rfl, rfl, _⟩ := z7 e
   exact ⟨rfl, rfl, [], .nil, fun w2 _ => rfl⟩
  ·rw [if_neg h0] at e; exact (zY e).elim
 | sliceK _ _ _ hL _ => exact go _ _ _ _ _ _ _ rfl rfl hL (fun _ => rfl)
 | sliceK0 _ _ hL => exact go _ _ _ _ _ _ _ rfl rfl hL (fun h => by omega)
 | sliceU _ _ _ _ hL _ _ _ => exact go _ _ _ _ _ _ _ rfl rfl hL (fun _ => rfl)
 | sliceZ _ _ _ hL _ _ => exact go _ _ _ _ _ _ _ rfl rfl hL (fun h => by omega)
 | str s =>
  unfold firstM at e
  simp only at e
  by_cases hle : n <= s.length
  rotate_left
  ·rw [if_neg hle] at e; exact (zY e).elim
  rw [if_pos hle] at e
  obtain ⟨rfl, rfl, rfl, _⟩ := z7 e
  refine ⟨rfl, rfl, _, u8s_ok _, fun w2 _ => ?_⟩
  simp only [Builtin.firstCells, extract_str, List.drop_zero, Nat.sub_zero, Sem.run_pure]
  congr 1
  apply Array.ext'
  simp
 | _ => unfold firstM at e; exact (zY e).elim
def qN (xt : Option Nat) : Sem Bool :=
 match xt with
 | some xType => do pure ((<- underlying xType) matches .int _)
 | none => pure false
def AppOk (P : Program) (φ : Nm) (w : World) (e k n : Nat) (xt : Option Nat) (x' : Value) (new : List V) : Prop :=
 ∃ us zeros, VRs φ new us /\ (qN xt).run P w = .ok zeros w /\
  (zeros = true -> ∃ q i, x' = .int q i /\ 0 <= i /\ i <= 1000000000 /\ i.toNat = n /\ ∃ it zv, P.info? e = some it /\ it.zero = some zv /\ us.toArray = Builtin.zeroCells zv.cells n /\ zv.cells.size = it.size) /\
  (zeros = false -> (Builtin.lenOf x').run P w = .ok n w /\ ∀ w2 : World, w2.heap = w.heap -> (Builtin.firstCells (k + 1) n x').run P w2 = .ok us.toArray w2)
variable {cx : Cx} (hcx : qJ P cx)
include hcx
theorem appendedM_ok (r : Rel ng w0 φ h w) {e k n : Nat} {xt : Option Nat} {x : V} {x' : Value} {new : List V} (hx : VR φ x x')
  (hrun : appendedM cx e (k + 1) xt x h c = .ok (n, new) h' c' l) : h' = h /\ c' = c /\ AppOk P φ w e k n xt x' new := by
 have slicy : ∀ (m : Option (Nat × Nat)) (len : Nat) (cap : Cap), x = .slice m len cap -> (qN xt).run P w = .ok false w ->
   (bnd (firstM (k + 1) len x) fun cs => ret (len, cs)) h c = .ok (n, new) h' c' l -> h' = h /\ c' = c /\ AppOk P φ w e k n xt x' new := by
  intro m len cap hxe hxt he
  obtain ⟨cs, h1, c1, l1, l2, e1, e2, _⟩ := z8 he
  obtain ⟨rfl, rfl, us, hv, hf⟩ := firstM_ok (P := P) r hx e1
  obtain ⟨e3, rfl, rfl, _⟩ := z7 e2
  cases e3
  refine ⟨rfl, rfl, us, false, hv, hxt, fun hh => (by cases hh), fun _ => ⟨?_, hf⟩⟩
  subst hxe
  cases hx <;> rfl
 have stringy : ∀ (s : List UInt8), x = .str s -> (qN xt).run P w = .ok false w ->
   (if k + 1 = 1 then ret (s.length, u8s s) else fail "append: string" : M H (Nat × List V)) h c = .ok (n, new) h' c' l -> h' = h /\ c' = c /\ AppOk P φ w e k n xt x' new := by
  intro s hxe hxt he
  by_cases h1 : k + 1 = 1
  rotate_left
  ·rw [if_neg h1] at he; exact (zY he).elim
  rw [if_pos h1] at he
  obtain ⟨e3, rfl, rfl, _⟩ := z7 he
  cases e3
  subst hxe
  cases hx
  refine ⟨rfl, rfl, _, false, u8s_ok _, hxt, fun hh => (by cases hh), fun _ => ⟨rfl, fun w2 _ => ?_⟩⟩
  simp only [Builtin.firstCells, extract_str, List.drop_zero, Nat.sub_zero, Sem.run_pure, List.take_length]
  congr 1
  apply Array.ext'
  simp
 unfold appendedM at hrun
 cases xt with
 | none =>
  simp only at hrun
  cases x <;> try exact (zY hrun).elim
  case slice m len cap => exact slicy m len cap rfl rfl hrun
  case str s => exact stringy s rfl rfl hrun
 | some t =>
  simp only at hrun
  cases hd : cx.desc t with
  | none => simp only [hd] at hrun; exact (zY hrun).elim
  | some d =>
   simp only [hd] at hrun
   have hu := jf hcx hd
   cases d
   case int ik =>
    cases hx <;> try exact (zY hrun).elim
    rename_i q i
    simp only at hrun
    by_cases hb : 0 <= i /\ i <= 1000000000
    rotate_left
    ·rw [if_neg hb] at hrun; exact (zY hrun).elim
    rw [if_pos hb] at hrun
    obtain ⟨z, h1, c1, l1, l2, e1, e2, _⟩ := z8 hrun
    obtain ⟨hz, rfl, rfl, _⟩ := yH e1
    obtain ⟨e3, rfl, rfl, _⟩ := z7 e2
    cases e3
    obtain ⟨it, zv, hi, hiz, hpos, hzs, hzl, hzr⟩ := wc hcx hz
    refine ⟨rfl, rfl, _, true, hzr φ, by simp [qN, run_underlying hu], fun _ => ⟨q, i, rfl, hb.1, hb.2, rfl, it, zv, hi, hiz, ?_, hzs⟩, fun hh => by cases hh⟩
    simp only [Builtin.zeroCells, hzs]
   all_goals
    cases x <;> try exact (zY hrun).elim
    case slice m len cap => exact slicy m len cap rfl (by simp [qN, run_underlying hu]) hrun
    case str s => exact stringy s rfl (by simp [qN, run_underlying hu]) hrun
end
open Go.RowKit
section
variable {H : Type} [MapI H AObj] {P : Program} {ng : Nat} {w0 w : World} {φ : Nm} {h h' : H} {c c' : Nat} {l : List Acc}
theorem zeros_cases {xt : Option Nat} {z : Bool} (h : (qN xt).run P w = .ok z w) : (xt = none /\ z = false) \/ ∃ t d, xt = some t /\ P.underlying t = some d /\ (d matches .int _) = z := by
 cases xt with
 | none => simp [qN] at h; exact .inl ⟨rfl, by simp [h]⟩
 | some t =>
  cases hu : P.underlying t with
  | none => simp [qN, underlying, hu] at h
  | some d => simp [qN, run_underlying hu] at h; exact .inr ⟨t, d, rfl, hu, h⟩
def appIn (P : Program) (w : World) (base : Option Addr) (off need sCap : Nat) (us : List Value) : Result Value :=
 match base with
 | some a => ((storeCells (a.add off) us).run P w).andThen fun _ w' => .ok (.slice (some a) need sCap) w'
 | none => .ok (.slice none need sCap) w
theorem run_append_any {st e n k sLen sCap : Nat} {xts : List Nat} {ty : TypeId} {base : Option Addr} {x' : Value} {rest : List Value} {i : TypeInfo} {z : Value} {zeros : Bool} {us us0 : List Value}
  (hu : P.underlying st = some (.slice e)) (hi : P.info? e = some i) (his : i.size = k + 1) (hz : i.zero = some z) (hzr : (qN xts.head?).run P w = .ok zeros w)
  (h1 : zeros = true -> ∃ q j, x' = .int q j /\ 0 <= j /\ j <= 1000000000 /\ j.toNat = n /\ us.toArray = Builtin.zeroCells z.cells n)
  (h0 : zeros = false -> (Builtin.lenOf x').run P w = .ok n w /\ ∀ w2 : World, w2.heap = w.heap -> (Builtin.firstCells (k + 1) n x').run P w2 = .ok us.toArray w2)
  (hold : sCap < sLen + n -> ∀ w2 : World, w2.heap = w.heap -> (Builtin.firstCells (k + 1) sLen (.slice base sLen sCap)).run P w2 = .ok us0.toArray w2)
  (hn : sLen + n <= 1000000000) (hb : i.bytes <= 4096) :
  (Builtin.append_ ⟨st :: xts⟩ ty ⟨.slice base sLen sCap :: x' :: rest⟩).run P w =
   if sLen + n <= sCap then appIn P w base (sLen * (k + 1)) (sLen + n) sCap us
   else .ok (.slice (some ⟨w.heap.size, 0, none⟩) (sLen + n) (grownCap w (sLen + n) sCap e))
    (w.drew.alloc (.cells (us0.toArray ++ us.toArray ++ Builtin.zeroCells z.cells (grownCap w (sLen + n) sCap e - (sLen + n))) e)) := by
 have hx1 : (⟨st :: xts⟩ : Array Nat)[1]? = xts.head? := by cases xts <;> simp
 have hsz : ∀ w2 : World, (sizeOf e).run P w2 = .ok (k + 1) w2 := fun w2 => by simp [sizeOf, typeInfo, hi, his]
 have hty : ∀ w2 : World, (typeInfo e).run P w2 = .ok i w2 := fun w2 => run_typeInfo w2 hi
 have hzv : ∀ w2 : World, (zeroValue e).run P w2 = .ok z w2 := fun w2 => by simp [zeroValue, hty, hz]
 have h63 : ¬ (((sLen + n : Nat) : Int) > IntKind.i64.max) := by
  have : IntKind.i64.max = 9223372036854775807 := by rfl
  omega
 have hdraw : ∀ w2 : World, w2 = w -> (choose (.appendCap (sLen + n) sCap e)).run P w2 = .ok (grownCap w (sLen + n) sCap e) w.drew := fun w2 hw => by
  subst hw; simp [Question.forced, grownCap]
 have hd : w.drew.heap = w.heap := rfl
 have hgrow : sCap < sLen + n -> ¬ (Builtin.nextslicecap (sLen + n) sCap * i.bytes > 2 ^ 48) := fun hlt => by
  have h1 := nextslicecap_le hlt
  have h2 : Builtin.nextslicecap (sLen + n) sCap * i.bytes <= 2000000000 * 4096 := Nat.mul_le_mul (by omega) hb
  have : (2 ^ 48 : Nat) = 281474976710656 := by decide
  rw [this]; omega
 have hwr : ∀ j : Int, 0 <= j -> j <= 1000000000 -> IntKind.i64.wrap j = j := wrap_small
 by_cases hle : sLen + n <= sCap
 ·rw [if_pos hle]
  rcases zeros_cases hzr with ⟨hx, rfl⟩ | ⟨t, d, hx, hut, hdz⟩
  ·obtain ⟨hl, hf⟩ := h0 rfl
   unfold Builtin.append_
   simp only [List.getElem?_toArray, List.getElem?_cons_zero, List.getElem?_cons_succ, Sem.run_bind, run_underlying hu, Result.andThen_ok, hsz, hl, hx1, hx, Sem.run_pure, Bool.false_eq_true, if_false, hle, if_true, Bool.not_false, hf w rfl]
   cases base with
   | none => rfl
   | some a => simp only [Sem.run_bind, appIn]; cases (storeCells (a.add (sLen * (k + 1))) us).run P w <;> rfl
  ·have hdz' : Builtin.append_.match_1 (fun _ => Bool) d (fun _ => true) (fun _ => false) = zeros := by rw [<- hdz]; cases d <;> rfl
   cases zeros with
   | false =>
    obtain ⟨hl, hf⟩ := h0 rfl
    unfold Builtin.append_
    simp only [List.getElem?_toArray, List.getElem?_cons_zero, List.getElem?_cons_succ, Sem.run_bind, run_underlying hu, run_underlying hut, hdz', Result.andThen_ok, hsz, hl, hx1, hx, Sem.run_pure, Bool.false_eq_true, if_false, hle, if_true, Bool.not_false, hf w rfl]
    cases base with
    | none => rfl
    | some a => simp only [Sem.run_bind, appIn]; cases (storeCells (a.add (sLen * (k + 1))) us).run P w <;> rfl
   | true =>
    obtain ⟨q, jj, rfl, hj0, hj1, hjn, hus⟩ := h1 rfl
    have hlt : ¬ jj < 0 := by omega
    have hbig : ¬ jj * (i.bytes : Int) > 2 ^ 48 := by
     have h1 : jj * (i.bytes : Int) <= 1000000000 * 4096 := Int.mul_le_mul hj1 (by omega) (by omega) (by omega)
     have : (2 ^ 48 : Int) = 281474976710656 := by decide
     rw [this]; omega
    unfold Builtin.append_
    simp only [List.getElem?_toArray, List.getElem?_cons_zero, List.getElem?_cons_succ, Sem.run_bind, run_underlying hu, run_underlying hut, hdz', Result.andThen_ok, hsz, hx1, hx, Sem.run_pure, if_true, hle,
     Bool.not_true, Bool.false_eq_true, if_false, Go.asInt, asIntOf, hwr jj hj0 hj1, hlt, hty, hbig, hjn]
    by_cases hn0 : n * (k + 1) = 0
    ·have hn0' : n = 0 := by
      rcases Nat.mul_eq_zero.1 hn0 with h | h
      ·exact h
      ·omega
     have husn : us = [] := by
      have : us.toArray = #[] := by rw [hus, hn0']; simp [Builtin.zeroCells]
      simpa using this
     subst husn
     simp only [hn0, if_true, Sem.run_pure, Result.andThen_ok]
     cases base with
     | none => rfl
     | some a => simp only [Sem.run_bind]; rfl
    ·simp only [hn0, if_false, Sem.run_bind, hzv, Result.andThen_ok, Sem.run_pure, <- hus]
     cases base with
     | none => rfl
     | some a => simp only [Sem.run_bind, appIn]; cases (storeCells (a.add (sLen * (k + 1))) us).run P w <;> rfl
 ·rw [if_neg hle]
  have hg := hgrow (by omega)
  have hold := hold (by omega)
  rcases zeros_cases hzr with ⟨hx, rfl⟩ | ⟨t, d, hx, hut, hdz⟩
  ·obtain ⟨hl, hf⟩ := h0 rfl
   unfold Builtin.append_
   simp only [List.getElem?_toArray, List.getElem?_cons_zero, List.getElem?_cons_succ, Sem.run_bind, run_underlying hu, Result.andThen_ok, hsz, hl, hx1, hx, Sem.run_pure, Bool.false_eq_true, if_false, hle, Bool.not_false, if_true,
    hty, h63, false_and, hg, hdraw w rfl, run_askRoom, hold _ hd, hf _ hd, hzv, newRow, run_newObj]
   rfl
  ·have hdz' : Builtin.append_.match_1 (fun _ => Bool) d (fun _ => true) (fun _ => false) = zeros := by rw [<- hdz]; cases d <;> rfl
   cases zeros with
   | false =>
    obtain ⟨hl, hf⟩ := h0 rfl
    unfold Builtin.append_
    simp only [List.getElem?_toArray, List.getElem?_cons_zero, List.getElem?_cons_succ, Sem.run_bind, run_underlying hu, run_underlying hut, hdz', Result.andThen_ok, hsz, hl, hx1, hx, Sem.run_pure, Bool.false_eq_true, if_false, hle, Bool.not_false, if_true,
     hty, h63, false_and, hg, hdraw w rfl, run_askRoom, hold _ hd, hf _ hd, hzv, newRow, run_newObj]
    rfl
   | true =>
    obtain ⟨q, jj, rfl, hj0, hj1, hjn, hus⟩ := h1 rfl
    have hlt : ¬ jj < 0 := by omega
    have hbig : ¬ jj * (i.bytes : Int) > 2 ^ 48 := by
     have h1 : jj * (i.bytes : Int) <= 1000000000 * 4096 := Int.mul_le_mul hj1 (by omega) (by omega) (by omega)
     have : (2 ^ 48 : Int) = 281474976710656 := by decide
     rw [this]; omega
    unfold Builtin.append_
    simp only [List.getElem?_toArray, List.getElem?_cons_zero, List.getElem?_cons_succ, Sem.run_bind, run_underlying hu, run_underlying hut, hdz', Result.andThen_ok, hsz, hx1, hx, Sem.run_pure, if_true, hle,
     Bool.not_true, Bool.false_eq_true, if_false, Go.asInt, asIntOf, hwr jj hj0 hj1, hlt, hty, hbig, hjn, h63, false_and, hg, hdraw w rfl, run_askRoom, hold _ hd]
    by_cases hn0 : n * (k + 1) = 0
    ·have hn0' : n = 0 := by
      rcases Nat.mul_eq_zero.1 hn0 with h | h
      ·exact h
      ·omega
     have husn : us = [] := by
      have : us.toArray = #[] := by rw [hus, hn0']; simp [Builtin.zeroCells]
      simpa using this
     subst husn
     simp only [hn0, if_true, Sem.run_pure, Result.andThen_ok, hzv, newRow, run_newObj, Sem.run_bind]
     rfl
    ·simp only [hn0, if_false, Sem.run_bind, hzv, Result.andThen_ok, Sem.run_pure, <- hus, newRow, run_newObj]
     rfl
theorem Rel.congr {k : H} (r : Rel ng w0 φ h w) (e : ∀ n, MapI.get k n = MapI.get h n) : Rel ng w0 φ k w :=
 ⟨r.below, fun n o hn => r.obj n o (by rw [<- e]; exact hn), fun n m o p L K hne hn hm => r.apart n m o p L K hne (by rw [<- e]; exact hn) (by rw [<- e]; exact hm), r.glob⟩
theorem Rel.grow (r : Rel ng w0 φ h w) {m o : Nat} {cl : Bool} {cs old new : List V} {us : List Value} {L : Loc} {C : Array Value} {e : TypeId} {fr : Nat × Nat}
  (hm : MapI.get h m = some (.cells true cl cs)) (hL : φ m = some L) (hc : φ c = none) (hb : w.heap[L.blk]? = some (.cells C e fr)) {k : Nat} (hold : cut cs o k = some old) (hnew : VRs φ new us)
  (hfit : L.off + o + k + new.length <= L.lim) :
  Rel ng w0 (φ.put c ⟨L.blk, L.off + o, L.lim⟩) (MapI.set (MapI.set h m .dead) c (.cells true (Nat.beq o 0 && cl) (old ++ new))) (World.setBlk w L.blk (.cells (qA C (L.off + o + k) us) e fr)) := by
 obtain ⟨hle, hol, hog⟩ := kw hold
 obtain ⟨K, hK, ho, _⟩ := r.obj m _ hm
 rw [hL] at hK; cases hK
 have ho' := ho
 obtain ⟨C', e', fr', hb', hlen, hlim, hg, hfz, hcl⟩ := ho'
 rw [hb] at hb'; cases hb'
 have hnl := hnew.length
 -- first the block, the old name holding what lies ahead
 have r1 : Rel ng w0 φ (MapI.set h m (.cells true cl (cs.take (o + k)))) (World.setBlk w L.blk (.cells (qA C (L.off + o + k) us) e fr)) := by
  refine r.setBlk hm rfl hL rfl ⟨_, _, _, rfl, by simp; omega, by rw [gR]; exact hlim, fun i v hi => ?_, hfz, hcl⟩
  rw [List.getElem?_take] at hi
  split at hi
  ·next hik =>
   obtain ⟨u, h1, h2⟩ := hg i v hi
   refine ⟨u, ?_, h2⟩
   rw [gG _ _ _ _ (by omega), if_neg (by omega)]; exact h1
  ·cases hi
 have hmc : m ≠ c := fun e => by subst e; rw [hc] at hL; cases hL
 have r2 := r1.move (c := c) (L' := ⟨L.blk, L.off + o, L.lim⟩) (o' := .cells true (Nat.beq o 0 && cl) (old ++ new)) (zt _ _ _) rfl hL hc rfl rfl (by
  refine ⟨qA C (L.off + o + k) us, e, fr, heap_setBlk _ hb, by simp; omega, by rw [gR]; exact hlim, fun i v hi => ?_, fun _ j h1 h2 => hfz rfl j (by simp at h1; omega) h2, fun h => by
   rw [Bool.and_eq_true] at h
   have ho := Nat.eq_of_beq_eq_true h.1
   have h2 := hcl h.2
   exact ⟨h2.1, by show L.off + o = 0; omega⟩⟩
  simp only
  by_cases hik : i < k
  ·rw [List.getElem?_append_left (by omega), hog i hik] at hi
   obtain ⟨u, h1, h2⟩ := hg _ _ hi
   refine ⟨u, ?_, h2.mono (Ext.put _ hc).mono⟩
   rw [gG _ _ _ _ (by omega), if_neg (by omega), show L.off + o + i = L.off + (o + i) by omega]; exact h1
  ·rw [List.getElem?_append_right (by omega), hol] at hi
   obtain ⟨u, h1, h2⟩ := hnew.get hi
   have hlt : i - k < us.length := by
    rcases Nat.lt_or_ge (i - k) us.length with h | h
    ·exact h
    ·rw [List.getElem?_eq_none h] at h1; cases h1
   refine ⟨u, ?_, h2.mono (Ext.put _ hc).mono⟩
   rw [gG _ _ _ _ (by omega), if_pos (by omega), show L.off + o + i - (L.off + o + k) = i - k by omega]; exact h1)
 refine r2.congr fun n => ?_
 by_cases h1 : c = n
 ·subst h1; rw [zt, zt]
 ·rw [zu _ _ _ _ h1, zu _ _ _ _ h1]
  by_cases h2 : m = n
  ·subst h2; rw [zt, zt]
  ·rw [zu _ _ _ _ h2, zu _ _ _ _ h2, zu _ _ _ _ h2]
theorem zeroCells_size (z : Array Value) (n : Nat) : (Builtin.zeroCells z n).size = n * z.size := by simp [Builtin.zeroCells]
variable {cx : Cx} (hcx : qJ P cx)
include hcx
theorem zlen_ok {e k : Nat} {i : TypeInfo} (hi : P.info? e = some i) (h : zlen cx e = k + 1) : ∃ z, i.zero = some z /\ z.cells.size = k + 1 := by
 unfold zlen at h
 split at h
 ·next z hz =>
  obtain ⟨i', zv, hi', hiz, hzv⟩ := zero_ok hcx hz
  rw [hi] at hi'; cases hi'
  have := (toV_ok (φ := fun _ => none) hzv).cells.length
  exact ⟨zv, hiz, by simp at this; omega⟩
 ·cases h
theorem appendM_ok (r : Rel ng w0 φ h w) {st : Nat} {xt : List Nat} {s x v : V} {s' x' : Value} {rest : List V} {rest' : List Value} {ty : Nat} (hs : VR φ s s') (hx : VR φ x x')
  (e : appendM cx (st :: xt) (s :: x :: rest) h c = .ok v h' c' l) (hf : Fresh φ c c') :
  Done P ng w0 φ c c' h' w v (Builtin.append_ ⟨st :: xt⟩ ty ⟨s' :: x' :: rest'⟩) := by
 unfold appendM at e
 simp only at e
 cases hd : cx.desc st with
 | none => simp only [hd] at e; exact (zY e).elim
 | some d =>
  have hu := jf hcx hd
  simp only [hd] at e
  cases d <;> try exact (zY e).elim
  rename_i el
  have main : ∀ (a : Option (Nat × Nat)) (len : Nat) (cap : Cap) (base : Option Addr) (sCap : Nat), s = .slice a len cap -> s' = .slice base len sCap ->
    Done P ng w0 φ c c' h' w v (Builtin.append_ ⟨st :: xt⟩ ty ⟨s' :: x' :: rest'⟩) := by
   intro a len cap base sCap hse hse'
   subst hse; subst hse'
   simp only at e
   cases hty : cx.ty el with
   | none => simp only [hty] at e; exact (zY e).elim
   | some i =>
    have hi := hcx.ty _ _ hty
    cases hk : cx.size el with
    | none => simp only [hty, hk] at e; exact (zY e).elim
    | some k1 =>
     cases k1 with
     | zero => simp only [hty, hk] at e; exact (zY e).elim
     | succ k =>
      simp only [hty, hk] at e
      obtain ⟨i', hi', his⟩ := gA hcx hk
      rw [hi] at hi'; cases hi'
      obtain ⟨⟨n, new⟩, h1, c1, l1, l2, e1, e2, _⟩ := z8 e
      obtain ⟨rfl, rfl, us, zeros, hnew, hzr, hap1, hap0⟩ := appendedM_ok hcx r hx e1
      simp only at e2
      by_cases hcond : new.length = n * (k + 1) /\ len + n <= 1000000000 /\ i.bytes <= 4096 /\ zlen cx el = k + 1
      rotate_left
      ·rw [if_neg hcond] at e2; exact (zY e2).elim
      rw [if_pos hcond] at e2
      obtain ⟨hnl, hln, hby, hzl⟩ := hcond
      obtain ⟨z, hz, hzs⟩ := zlen_ok hcx hi hzl
      have hus := hnew.length
      -- the run
      have hap1' : zeros = true -> ∃ q j, x' = .int q j /\ 0 <= j /\ j <= 1000000000 /\ j.toNat = n /\ us.toArray = Builtin.zeroCells z.cells n := fun hh => by
       obtain ⟨q, j, a1, a2, a3, a4, it, zv, a5, a6, a7, _⟩ := hap1 hh
       rw [hi] at a5; cases a5; rw [hz] at a6; cases a6; exact ⟨q, j, a1, a2, a3, a4, a7⟩
      have run := fun (us0 : List Value) (hold : sCap < len + n -> ∀ w2 : World, w2.heap = w.heap -> (Builtin.firstCells (k + 1) len (.slice base len sCap)).run P w2 = .ok us0.toArray w2) =>
       run_append_any (P := P) (w := w) (rest := rest') (ty := ty) (base := base) hu hi his hz hzr hap1' hap0 (us0 := us0) hold hln hby
      have hold0 : len = 0 -> ∀ w2 : World, w2.heap = w.heap -> (Builtin.firstCells (k + 1) len (.slice base len sCap)).run P w2 = .ok ([] : List Value).toArray w2 := fun hl w2 _ => by
       subst hl; cases base
       ·rfl
       ·simp only [Builtin.firstCells, Nat.zero_mul]; rfl
      have hcap : len + n <= grownCap w (len + n) sCap el := grownCap_ge _ _ _ _
      -- into a new row: the cells that were, and the new ones
      have fresh : ∀ {h2 : H} {cl : Bool} (old : List V) (us0 : List Value), VRs φ old us0 -> Rel ng w0 φ h2 w -> sCap < len + n -> old.length = len * (k + 1) ->
        (∀ w2 : World, w2.heap = w.heap -> (Builtin.firstCells (k + 1) len (.slice base len sCap)).run P w2 = .ok us0.toArray w2) ->
        φ c1 = none -> v = .slice (some (c1, 0)) (len + n) (.upTo (k + 1)) -> h' = MapI.set h2 c1 (.cells true cl (old ++ new)) -> c' = c1 + 1 ->
        Done P ng w0 φ c1 c' h' w v (Builtin.append_ ⟨st :: xt⟩ ty ⟨.slice base len sCap :: x' :: rest'⟩) := by
       intro h2 cl old us0 hov r2 hlt hol hold hc1 hv hh' hc'
       subst hv; subst hh'; subst hc'
       have hr := run us0 (fun _ => hold)
       rw [if_neg (by omega)] at hr
       have hol' := hov.length
       have hsize : (us0.toArray ++ us.toArray ++ Builtin.zeroCells z.cells (grownCap w (len + n) sCap el - (len + n))).size = grownCap w (len + n) sCap el * (k + 1) := by
        simp only [Array.size_append, zeroCells_size, List.size_toArray, hzs]
        have e1 : us0.length + us.length = (len + n) * (k + 1) := by rw [<- hol', <- hus, hol, hnl, Nat.add_mul]
        have e2 : (len + n) * (k + 1) + (grownCap w (len + n) sCap el - (len + n)) * (k + 1) = grownCap w (len + n) sCap el * (k + 1) := by rw [<- Nat.add_mul]; congr 1; omega
        omega
       have r3 := (r2.drew (w.drawn + 1)).newRow (c := c1) (e := el) (C := us0.toArray ++ us.toArray ++ Builtin.zeroCells z.cells (grownCap w (len + n) sCap el - (len + n))) (fr := (0, 0)) (cl := cl) (vs := old ++ new) hc1
        (by simp only [zr, Array.size_append, List.size_toArray]; omega) (fun i v hi => by
         obtain ⟨u, a1, a2⟩ := (hov.append hnew).get hi
         refine ⟨u, ?_, a2⟩
         have hlt : i < (us0 ++ us).length := by
          rcases Nat.lt_or_ge i (us0 ++ us).length with h | h
          ·exact h
          ·rw [List.getElem?_eq_none h] at a1; cases a1
         rw [Array.getElem?_append_left (by simpa using hlt)]
         rw [<- a1]; simp) (fun j _ => by simp) (fun _ => rfl)
       refine ⟨_, _, _, Ext.put _ hc1, by omega, r3, ?_, hr⟩
       refine VR.sliceU (L := ⟨w.heap.size, 0, _⟩) 0 _ _ _ j1 ?_ hcap (by omega)
       simp only [hsize, Nat.zero_add, Nat.add_zero]
      have husn : n = 0 -> us = [] := fun hn0 => List.eq_nil_of_length_eq_zero (by rw [<- hus, hnl, hn0]; simp)
      -- nothing is appended
      have nothing : n = 0 -> len <= sCap -> VR φ (.slice a len cap) (.slice base len sCap) -> v = .slice a len cap -> h' = h1 -> c' = c1 ->
        Done P ng w0 φ c1 c' h' w v (Builtin.append_ ⟨st :: xt⟩ ty ⟨.slice base len sCap :: x' :: rest'⟩) := by
       intro hn0 hle hv hve hh' hc'
       subst hve; subst hh'; subst hc'
       have hr := run [] (fun hh => by omega)
       rw [if_pos (by omega)] at hr
       refine j7 r hv ?_
       rw [hr, husn hn0, hn0]
       cases base with
       | none => rfl
       | some b => simp [appIn, storeCells]
      -- cells of its own are written
      have inplace : ∀ (b : Addr) (w' : World), base = some b -> len + n <= sCap -> (storeCells (b.add (len * (k + 1))) us).run P w = .ok () w' -> Rel ng w0 φ h' w' -> c' = c1 ->
        VR φ v (.slice base (len + n) sCap) -> Done P ng w0 φ c1 c' h' w v (Builtin.append_ ⟨st :: xt⟩ ty ⟨.slice base len sCap :: x' :: rest'⟩) := by
       intro b w' hb hle hst hr' hc' hv
       subst hc'
       have hr := run [] (fun hh => by omega)
       rw [if_pos hle] at hr
       refine ⟨φ, _, w', Ext.refl _ _ _, Nat.le_refl _, hr', hv, ?_⟩
       rw [hr]; subst hb
       simp only [appIn, hst, Result.andThen_ok]
      cases hs with
      | sliceNil =>
       simp only at e2
       by_cases hn0 : n = 0
       ·simp only [hn0, if_true] at e2
        obtain ⟨hv, hh, hc, _⟩ := z7 e2
        exact nothing hn0 (Nat.le_refl _) .sliceNil hv hh hc
       ·simp only [hn0, if_false, if_true] at e2
        unfold growM at e2
        obtain ⟨m, h3, c3, l3, l4, e3, e4, _⟩ := z8 e2
        obtain ⟨rfl, rfl, rfl, _⟩ := jF e3
        obtain ⟨rfl, rfl, rfl, _⟩ := z7 e4
        exact fresh (cl := true) [] [] .nil r (by omega) (by simp) (hold0 rfl) (hf m (by omega) (by omega)) (by simp) rfl rfl
      | sliceK o _ _ hL hle =>
       rename_i m L
       simp only at e2
       by_cases hin : len + n <= sCap
       ·rw [if_pos hin] at e2
        by_cases hn0 : n = 0
        ·rw [if_pos hn0] at e2
         obtain ⟨hv, hh, hc, _⟩ := z7 e2
         exact nothing hn0 (by omega) (.sliceK _ _ _ hL hle) hv hh hc
        ·rw [if_neg hn0] at e2
         obtain ⟨u, h3, c3, l3, l4, e3, e4, _⟩ := z8 e2
         obtain ⟨rfl, L', w', hL', hrun, hr'⟩ := storeC_ok (P := P) r hnew e3
         rw [hL] at hL'; cases hL'
         obtain ⟨rfl, rfl, rfl, _⟩ := z7 e4
         exact inplace _ w' rfl hin (by rw [jO, Nat.add_assoc]; exact hrun) hr' rfl (.sliceK _ _ _ hL hin)
       ·rw [if_neg hin] at e2
        obtain ⟨old, h3, c3, l3, l4, e3, e4, _⟩ := z8 e2
        have hlen : old.length = len * (k + 1) := by
         unfold firstM at e3
         simp only at e3
         by_cases hl0 : len = 0
         ·rw [if_pos hl0] at e3; obtain ⟨rfl, _⟩ := z7 e3; simp [hl0]
         ·rw [if_neg hl0, if_pos (Nat.le_refl _)] at e3
          exact (loadC_ok (P := P) r e3).2.2.1
        obtain ⟨rfl, rfl, us0, hov, hold⟩ := firstM_ok (P := P) r (.sliceK o _ _ hL hle) e3
        unfold growM at e4
        obtain ⟨m', h5, c5, l5, l6, e5, e6, _⟩ := z8 e4
        obtain ⟨rfl, rfl, rfl, _⟩ := jF e5
        obtain ⟨rfl, rfl, rfl, _⟩ := z7 e6
        exact fresh (cl := true) old us0 hov r (by omega) hlen hold (hf _ (by omega) (by omega)) rfl rfl rfl
      | sliceK0 o b hL =>
       rename_i m L
       simp only at e2
       by_cases hin : 0 + n <= 0
       ·rw [if_pos hin] at e2
        have hn0 : n = 0 := by omega
        rw [if_pos hn0] at e2
        obtain ⟨hv, hh, hc, _⟩ := z7 e2
        exact nothing hn0 (by omega) (.sliceK0 _ _ hL) hv hh hc
       ·rw [if_neg hin] at e2
        obtain ⟨old, h3, c3, l3, l4, e3, e4, _⟩ := z8 e2
        have hlen : old = [] /\ h3 = h1 /\ c3 = c1 := by
         unfold firstM at e3
         simp only [if_true] at e3
         obtain ⟨rfl, rfl, rfl, _⟩ := z7 e3; exact ⟨rfl, rfl, rfl⟩
        obtain ⟨rfl, rfl, rfl⟩ := hlen
        unfold growM at e4
        obtain ⟨m', h5, c5, l5, l6, e5, e6, _⟩ := z8 e4
        obtain ⟨rfl, rfl, rfl, _⟩ := jF e5
        obtain ⟨rfl, rfl, rfl, _⟩ := z7 e6
        exact fresh (cl := true) [] [] .nil r (by omega) (by simp) (hold0 rfl) (hf _ (by omega) (by omega)) rfl rfl rfl
      | sliceU o _ _ sz hL hlim hle hsz =>
       rename_i m L
       simp only at e2
       by_cases hn0 : n = 0
       ·rw [if_pos hn0] at e2
        obtain ⟨hv, hh, hc, _⟩ := z7 e2
        exact nothing hn0 (by omega) (.sliceU _ _ _ _ hL hlim hle hsz) hv hh hc
       rw [if_neg hn0] at e2
       by_cases hszk : sz = k + 1
       rotate_left
       ·rw [if_pos hszk] at e2; exact (zY e2).elim
       rw [if_neg (by simpa using hszk)] at e2
       subst hszk
       obtain ⟨ob, h3, c3, l3, l4, e3, e4, _⟩ := z8 e2
       obtain ⟨hm, rfl, rfl, _⟩ := y9 e3
       cases ob <;> try exact (zY e4).elim
       rename_i rw cl cs
       cases rw <;> try exact (zY e4).elim
       simp only at e4
       obtain ⟨K, hK, hobj, hbase, _⟩ := r.obj m _ hm
       rw [hL] at hK; cases hK
       have hobj' := hobj
       obtain ⟨C, ce, fr, hb, hlen, hlimC, hg, hfz, hcl⟩ := hobj'
       have hmul : (len + n) * (k + 1) = len * (k + 1) + n * (k + 1) := Nat.add_mul _ _ _
       by_cases hfit : o + (len + n) * (k + 1) <= cs.length
       ·rw [if_pos hfit] at e4
        by_cases h1c : new.all jR = true
        rotate_left
        ·rw [if_neg h1c] at e4; exact (zY e4).elim
        rw [if_pos h1c] at e4
        obtain ⟨u, h5, c5, l5, l6, e5, e6, _⟩ := z8 e4
        obtain ⟨_, rfl, rfl, _⟩ := ju e5
        obtain ⟨rfl, rfl, rfl, _⟩ := z7 e6
        have hin : len + n <= sCap := by
         have : (len + n) * (k + 1) <= sCap * (k + 1) := by omega
         exact Nat.le_of_mul_le_mul_right this (by omega)
        have hst := qi (P := P) (L.off + (o + len * (k + 1))) us 0 w C hb (by omega) (ones_ok hnew h1c) (fun j hj1 hj2 => hfz rfl j (by omega) (by omega))
        rw [hb] at hobj
        have hr' := r.setBlk hm rfl hL rfl (hobj.stored (o := o + len * (k + 1)) (vs := new) (by omega) hnew)
        exact inplace _ _ rfl hin (by rw [jO, Nat.add_assoc]; exact hst) hr' rfl (.sliceU _ _ _ _ hL hlim hin hsz)
       ·rw [if_neg hfit] at e4
        cases hct : cut cs o (len * (k + 1)) with
        | none => simp only [hct] at e4; exact (zY e4).elim
        | some old =>
         simp only [hct] at e4
         obtain ⟨u, h5, c5, l5, l6, e5, e6, _⟩ := z8 e4
         obtain ⟨_, rfl, rfl, _⟩ := ju e5
         by_cases h1c : (old ++ new).all jR = true
         rotate_left
         ·rw [if_neg h1c] at e6; exact (zY e6).elim
         rw [if_pos h1c] at e6
         obtain ⟨m', h7, c7, l7, l8, e7, e8, _⟩ := z8 e6
         obtain ⟨rfl, rfl, rfl, _⟩ := jF e7
         obtain ⟨rfl, rfl, rfl, _⟩ := z7 e8
         have hc1 : φ m' = none := hf _ (by omega) (by omega)
         obtain ⟨hle2, hol, hog⟩ := kw hct
         by_cases hin : len + n <= sCap
         ·-- in place, beyond what is known
          have hsp : (len + n) * (k + 1) <= sCap * (k + 1) := Nat.mul_le_mul_right _ hin
          have h1n : new.all jR = true := by rw [List.all_append, Bool.and_eq_true] at h1c; exact h1c.2
          have hst := qi (P := P) (L.off + (o + len * (k + 1))) us 0 w C hb (by omega) (ones_ok hnew h1n) (fun j hj1 hj2 => hfz rfl j (by omega) (by omega))
          have hr := run [] (fun hh => by omega)
          rw [if_pos hin] at hr
          have rg := r.grow (c := m') hm hL hc1 hb hct hnew (by omega)
          refine ⟨_, .slice (some ⟨L.blk, L.off + o, none⟩) (len + n) sCap, _, Ext.put _ hc1, by omega, rg, ?_, ?_⟩
          rotate_left
          ·rw [hr]
           simp only [appIn, jO, Nat.add_assoc]
           simp only [Nat.add_zero, Nat.add_assoc] at hst
           rw [hst]; rfl
          ·refine VR.sliceU (L := ⟨L.blk, L.off + o, L.lim⟩) 0 _ _ _ j1 ?_ hin hsz
           simp only; omega
         ·have hov := cells_of r hm hL hct
          obtain ⟨us0, hul, hovr, hcell⟩ := hov
          exact fresh (cl := Nat.beq o 0 && cl) old us0 hovr (r.kill hm) (by omega) hol (fun w2 hw2 => by
           have := run_loadCells_list (P := P) w2 ⟨L.blk, L.off + o, none⟩ us0 (fun j u hu => by rw [jO, cells_same hw2]; exact hcell j u hu)
           rw [hul] at this; exact this) hc1 rfl rfl rfl
      | sliceZ o sz b hL hlim hsz =>
       rename_i m L
       simp only at e2
       by_cases hn0 : n = 0
       ·rw [if_pos hn0] at e2
        obtain ⟨hv, hh, hc, _⟩ := z7 e2
        exact nothing hn0 (by omega) (.sliceZ _ _ _ hL hlim hsz) hv hh hc
       rw [if_neg hn0] at e2
       by_cases hszk : sz = k + 1
       rotate_left
       ·rw [if_pos hszk] at e2; exact (zY e2).elim
       rw [if_neg (by simpa using hszk)] at e2
       subst hszk
       obtain ⟨ob, h3, c3, l3, l4, e3, e4, _⟩ := z8 e2
       obtain ⟨hm, rfl, rfl, _⟩ := y9 e3
       cases ob <;> try exact (zY e4).elim
       rename_i rw cl cs
       cases rw <;> try exact (zY e4).elim
       simp only at e4
       obtain ⟨K, hK, hobj, hbase, _⟩ := r.obj m _ hm
       rw [hL] at hK; cases hK
       obtain ⟨C, ce, fr, hb, hlen, hlimC, hg, hfz, hcl⟩ := hobj
       by_cases hfit : o + (0 + n) * (k + 1) <= cs.length
       ·exfalso
        have : 1 * 1 <= (0 + n) * (k + 1) := Nat.mul_le_mul (by omega) (by omega)
        omega
       ·rw [if_neg hfit] at e4
        cases hct : cut cs o (0 * (k + 1)) with
        | none => simp only [hct] at e4; exact (zY e4).elim
        | some old =>
         simp only [hct] at e4
         obtain ⟨u, h5, c5, l5, l6, e5, e6, _⟩ := z8 e4
         obtain ⟨_, rfl, rfl, _⟩ := ju e5
         by_cases h1c : (old ++ new).all jR = true
         rotate_left
         ·rw [if_neg h1c] at e6; exact (zY e6).elim
         rw [if_pos h1c] at e6
         obtain ⟨m', h7, c7, l7, l8, e7, e8, _⟩ := z8 e6
         obtain ⟨rfl, rfl, rfl, _⟩ := jF e7
         obtain ⟨rfl, rfl, rfl, _⟩ := z7 e8
         have hc1 : φ m' = none := hf _ (by omega) (by omega)
         have hold : old = [] := List.eq_nil_of_length_eq_zero (by rw [(kw hct).2.1]; simp)
         subst hold
         exact fresh (cl := Nat.beq o 0 && cl) [] [] .nil (r.kill hm) (by omega) (by simp) (hold0 rfl) hc1 rfl rfl rfl
  cases hs <;> first
   | exact (zY e).elim
   | exact main _ _ _ _ _ rfl rfl
end
open Go.RowKit
section
variable {H : Type} [MapI H AObj] {P : Program} {ng : Nat} {w0 w : World} {φ : Nm} {h h' : H} {c c' : Nat} {l : List Acc}
theorem minI_ok {k : IntKind} : ∀ {rest : List V} {rest' : List Value} {x : Int} {v : V}, VRs φ rest rest' -> minI k x rest = some v -> ∃ y, v = .int k y /\ (rest'.foldlM Builtin.min2 (.int k x)).run P w = .ok (.int k y) w
 | [], _, x, v, .nil, h => by unfold minI at h; cases h; exact ⟨x, rfl, rfl⟩
 | q :: rest, _, x, v, .cons hq hr, h => by
  cases hq <;> unfold minI at h <;> try (cases h; done)
  rename_i k' y
  split at h
  ·next hk =>
   subst hk
   obtain ⟨z, h1, h2⟩ := minI_ok hr h
   refine ⟨z, h1, ?_⟩
   simp only [List.foldlM_cons, Sem.run_bind, Builtin.min2, Sem.run_pure, Result.andThen_ok, h2]
  ·cases h
theorem maxI_ok {k : IntKind} : ∀ {rest : List V} {rest' : List Value} {x : Int} {v : V}, VRs φ rest rest' -> maxI k x rest = some v -> ∃ y, v = .int k y /\ (rest'.foldlM Builtin.max2 (.int k x)).run P w = .ok (.int k y) w
 | [], _, x, v, .nil, h => by unfold maxI at h; cases h; exact ⟨x, rfl, rfl⟩
 | q :: rest, _, x, v, .cons hq hr, h => by
  cases hq <;> unfold maxI at h <;> try (cases h; done)
  rename_i k' y
  split at h
  ·next hk =>
   subst hk
   obtain ⟨z, h1, h2⟩ := maxI_ok hr h
   refine ⟨z, h1, ?_⟩
   simp only [List.foldlM_cons, Sem.run_bind, Builtin.max2, Sem.run_pure, Result.andThen_ok, h2]
  ·cases h
theorem minV_ok {xs : List V} {xs' : List Value} {v : V} {ts : Array Nat} {ty : Nat} (hx : VRs φ xs xs') (h : minV xs = some v) : ∃ u, VR φ v u /\ (Builtin.min_ ts ty ⟨xs'⟩).run P w = .ok u w := by
 unfold minV at h
 cases hx with
 | nil => cases h
 | cons a b =>
  cases a <;> try (cases h; done)
  obtain ⟨y, rfl, h2⟩ := minI_ok (P := P) (w := w) b h
  exact ⟨_, .int _ _, by simpa [Builtin.min_] using h2⟩
theorem maxV_ok {xs : List V} {xs' : List Value} {v : V} {ts : Array Nat} {ty : Nat} (hx : VRs φ xs xs') (h : maxV xs = some v) : ∃ u, VR φ v u /\ (Builtin.max_ ts ty ⟨xs'⟩).run P w = .ok u w := by
 unfold maxV at h
 cases hx with
 | nil => cases h
 | cons a b =>
  cases a <;> try (cases h; done)
  obtain ⟨y, rfl, h2⟩ := maxI_ok (P := P) (w := w) b h
  exact ⟨_, .int _ _, by simpa [Builtin.max_] using h2⟩
theorem bytesOfV_ok : ∀ {cs : List V} {us : List Value} {s : List UInt8}, VRs φ cs us -> bytesOfV cs = some s -> ∃ ns : List Int, us = ns.map (Value.int .u8) /\ s = ns.map (fun n => UInt8.ofNat n.toNat)
 | [], _, s, .nil, h => by unfold bytesOfV at h; cases h; exact ⟨[], rfl, rfl⟩
 | q :: cs, _, s, .cons hq hr, h => by
  cases hq <;> unfold bytesOfV at h <;> try (cases h; done)
  rename_i k n
  cases k <;> simp only at h <;> try (cases h; done)
  split at h
  ·next hn =>
   split at h
   ·next t ht =>
    cases h
    obtain ⟨ns, h1, h2⟩ := bytesOfV_ok hr ht
    exact ⟨n :: ns, by simp [h1], by simp [h2]⟩
   ·cases h
  ·cases h
variable {cx : Cx} (hcx : qJ P cx)
include hcx
theorem copyM_ok (r : Rel ng w0 φ h w) {t ty : Nat} {d s v : V} {d' s' : Value} {ts : List Nat} {rest : List Value} (hd' : VR φ d d') (hs' : VR φ s s') (e : copyM cx t d s h c = .ok v h' c' l) :
  c' = c /\ ∃ w' u, Rel ng w0 φ h' w' /\ VR φ v u /\ (Builtin.copy_ ⟨t :: ts⟩ ty ⟨d' :: s' :: rest⟩).run P w = .ok u w' := by
 unfold copyM at e
 cases hd : cx.desc t with
 | none => simp only [hd] at e; exact (zY e).elim
 | some td =>
  have hu := jf hcx hd
  simp only [hd] at e
  cases td <;> try exact (zY e).elim
  rename_i el
  have main : ∀ (a : Option (Nat × Nat)) (dl : Nat) (cap : Cap) (base : Option Addr) (dc : Nat), d = .slice a dl cap -> d' = .slice base dl dc ->
    (a = none -> base = none) -> (∀ n o, a = some (n, o) -> ∃ L b, φ n = some L /\ base = some b /\ (0 < dl -> b = ⟨L.blk, L.off + o, none⟩)) ->
    c' = c /\ ∃ w' u, Rel ng w0 φ h' w' /\ VR φ v u /\ (Builtin.copy_ ⟨t :: ts⟩ ty ⟨d' :: s' :: rest⟩).run P w = .ok u w' := by
   intro a dl cap base dc hde hde' hnone hsome
   subst hde; subst hde'
   simp only at e
   cases hk : cx.size el with
   | none => simp only [hk] at e; exact (zY e).elim
   | some k =>
    simp only [hk] at e
    obtain ⟨sl, h1, c1, l1, l2, e1, e2, _⟩ := z8 e
    have hsl : h1 = h /\ c1 = c /\ (Builtin.lenOf s').run P w = .ok sl w := by
     cases hs' <;> try exact (zY e1).elim
     case str b =>
      simp only at e1
      by_cases hk1 : k = 1
      ·rw [if_pos hk1] at e1
       obtain ⟨rfl, rfl, rfl, _⟩ := z7 e1; exact ⟨rfl, rfl, rfl⟩
      ·rw [if_neg hk1] at e1; exact (zY e1).elim
     all_goals
      obtain ⟨rfl, rfl, rfl, _⟩ := z7 e1; exact ⟨rfl, rfl, rfl⟩
    obtain ⟨rfl, rfl, hlen⟩ := hsl
    obtain ⟨cs, h2, c2, l3, l4, e3, e4, _⟩ := z8 e2
    obtain ⟨rfl, rfl, us, hv, hf⟩ := firstM_ok (P := P) r hs' e3
    have hf' := hf w rfl
    have hmin : Nat.min sl dl = min sl dl := rfl
    cases a with
    | none =>
     obtain ⟨rfl, rfl, rfl, _⟩ := z7 e4
     have hb := hnone rfl
     subst hb
     have hdl : dl = 0 := by cases hd'; rfl
     refine ⟨rfl, w, _, r, .int _ _, ?_⟩
     simp only [Builtin.copy_, List.getElem?_toArray, List.getElem?_cons_zero, List.getElem?_cons_succ, Sem.run_bind, run_underlying hu, Result.andThen_ok, hlen, j5 hcx hk, hmin, hf', Sem.run_pure, goInt]
     simp [hdl]
    | some p =>
     obtain ⟨n, o⟩ := p
     obtain ⟨L, b, hL, hb, hba⟩ := hsome n o rfl
     subst hb
     simp only at e4
     by_cases h0 : min sl dl = 0
     ·rw [if_pos h0] at e4
      obtain ⟨rfl, rfl, rfl, _⟩ := z7 e4
      refine ⟨rfl, w, _, r, .int _ _, ?_⟩
      have hus : us = [] := by
       have hc0 : cs = [] := by
        rw [h0] at e3
        unfold firstM at e3
        cases hs' <;> simp only at e3 <;> first
         | exact (zY e3).elim
         | (obtain ⟨rfl, _⟩ := z7 e3; rfl)
         | (rw [if_pos rfl] at e3; obtain ⟨rfl, _⟩ := z7 e3; rfl)
         | (rw [if_pos (Nat.zero_le _)] at e3; obtain ⟨rfl, _⟩ := z7 e3; rfl)
       subst hc0; cases hv; rfl
      subst hus
      rw [h0] at hf'
      simp only [Builtin.copy_, List.getElem?_toArray, List.getElem?_cons_zero, List.getElem?_cons_succ, Sem.run_bind, run_underlying hu, Result.andThen_ok, hlen, j5 hcx hk, hmin, hf', Sem.run_pure, goInt, h0]
      rfl
     ·rw [if_neg h0] at e4
      obtain ⟨u, h3, c3, l5, l6, e5, e6, _⟩ := z8 e4
      obtain ⟨rfl, L', w', hL', hrun, hr'⟩ := storeC_ok (P := P) r hv e5
      rw [hL] at hL'; cases hL'
      obtain ⟨rfl, rfl, rfl, _⟩ := z7 e6
      have hb := hba (by omega)
      subst hb
      refine ⟨rfl, w', _, hr', .int _ _, ?_⟩
      simp only [Builtin.copy_, List.getElem?_toArray, List.getElem?_cons_zero, List.getElem?_cons_succ, Sem.run_bind, run_underlying hu, Result.andThen_ok, hlen, j5 hcx hk, hmin, hf', Sem.run_pure, goInt, hrun]
  cases hd' <;> try exact (zY e).elim
  case sliceNil => exact main _ _ _ _ _ rfl rfl (fun _ => rfl) (fun _ _ hh => by cases hh)
  case sliceK hL _ => exact main _ _ _ _ _ rfl rfl (fun hh => by cases hh) (fun _ _ hh => by cases hh; exact ⟨_, _, hL, rfl, fun _ => rfl⟩)
  case sliceK0 hL => exact main _ _ _ _ _ rfl rfl (fun hh => by cases hh) (fun _ _ hh => by cases hh; exact ⟨_, _, hL, rfl, fun h => by omega⟩)
  case sliceU hL _ _ _ => exact main _ _ _ _ _ rfl rfl (fun hh => by cases hh) (fun _ _ hh => by cases hh; exact ⟨_, _, hL, rfl, fun _ => rfl⟩)
  case sliceZ hL _ _ => exact main _ _ _ _ _ rfl rfl (fun hh => by cases hh) (fun _ _ hh => by cases hh; exact ⟨_, _, hL, rfl, fun h => by omega⟩)
theorem assertM_ok {t xt : Nat} {x v : V} {x' : Value} {ok : Bool} (hx : VR φ x x') (e : (Ab.assertM cx x t ok : M H V) h c = .ok v h' c' l) :
  h' = h /\ c' = c /\ ∃ u, VR φ v u /\ (Instr.typeAssert x' xt t ok).run P w = .ok u w := by
 unfold assertM at e
 cases hd : cx.desc t with
 | none => simp only [hd] at e; exact (zY e).elim
 | some td =>
  have hu := jf hcx hd
  simp only [hd] at e
  have zero : ∀ z, cx.zero t = some z -> ∃ zv, (zeroValue t).run P w = .ok zv w /\ VR φ z zv := fun z hz => run_zero hcx hz φ w
  have tup : ∀ {z : V} {zv : Value} (b : Bool), VR φ z zv -> VR φ (.tuple [z, .bool b]) (.tuple #[zv, .bool b]) := fun b hz => .tuple (.cons hz (.cons (.bool _) .nil))
  have main : (∀ ms, td ≠ .interface ms) -> (match x with
    | .iface t2 v2 => if t2 = t then ret (if ok then V.tuple [v2, .bool true] else v2)
     else if ok then bnd (lift "assert: zero" (cx.zero t)) fun z => ret (.tuple [z, .bool false]) else fail "assert: fails"
    | .nilIface => if ok then bnd (lift "assert: zero" (cx.zero t)) fun z => ret (.tuple [z, .bool false]) else fail "assert: nil"
    | _ => fail "assert" : M H V) h c = .ok v h' c' l -> h' = h /\ c' = c /\ ∃ u, VR φ v u /\ (Instr.typeAssert x' xt t ok).run P w = .ok u w := by
   intro hni e
   cases hx <;> try exact (zY e).elim
   case iface t2 v2 u2 hv q5 =>
    simp only at e
    by_cases ht : t2 = t
    ·rw [if_pos ht] at e
     obtain ⟨rfl, rfl, rfl, _⟩ := z7 e
     subst ht
     refine ⟨rfl, rfl, if ok then .tuple #[u2, .bool true] else u2, ?_, ?_⟩
     ·cases ok
      ·exact hv
      ·exact tup true hv
     ·cases td <;> first
       | exact absurd rfl (hni _)
       | (simp only [Instr.typeAssert, Sem.run_bind, run_underlying hu, Result.andThen_ok, if_true, Sem.run_pure])
    ·rw [if_neg ht] at e
     cases ok with
     | false => simp only [Bool.false_eq_true, if_false] at e; exact (zY e).elim
     | true =>
      simp only [if_true] at e
      obtain ⟨z, h1, c1, l1, l2, e1, e2, _⟩ := z8 e
      obtain ⟨hz, rfl, rfl, _⟩ := yH e1
      obtain ⟨rfl, rfl, rfl, _⟩ := z7 e2
      obtain ⟨zv, hzr, hzv⟩ := zero z hz
      refine ⟨rfl, rfl, _, tup false hzv, ?_⟩
      cases td <;> first
       | exact absurd rfl (hni _)
       | (simp only [Instr.typeAssert, Sem.run_bind, run_underlying hu, Result.andThen_ok, ht, if_false, if_true, hzr, Sem.run_pure])
   case nilIface =>
    simp only at e
    cases ok with
    | false => simp only [Bool.false_eq_true, if_false] at e; exact (zY e).elim
    | true =>
     simp only [if_true] at e
     obtain ⟨z, h1, c1, l1, l2, e1, e2, _⟩ := z8 e
     obtain ⟨hz, rfl, rfl, _⟩ := yH e1
     obtain ⟨rfl, rfl, rfl, _⟩ := z7 e2
     obtain ⟨zv, hzr, hzv⟩ := zero z hz
     refine ⟨rfl, rfl, _, tup false hzv, ?_⟩
     cases td <;> first
      | exact absurd rfl (hni _)
      | (simp only [Instr.typeAssert, Sem.run_bind, run_underlying hu, Result.andThen_ok, if_true, hzr, Sem.run_pure])
  cases td
  case interface ms => exact (zY e).elim
  all_goals exact main (fun ms hh => by cases hh) (by cases x <;> exact e)
theorem methodV_ok {t f : Nat} {name : String} {v : Value} (hm : methodV cx t name = some f) : (do let p <- program; method (p.types.size + Made.depth) t v name : Sem (FuncId × Value)).run P w = .ok (f, v) w := by
 unfold methodV at hm
 cases hi : cx.ty t with
 | none => simp only [hi] at hm; cases hm
 | some i =>
  simp only [hi] at hm
  have hi' := hcx.ty _ _ hi
  cases hfd : i.methods.toList.find? (fun m => m.name == name) with
  | none => simp only [hfd] at hm; cases hm
  | some m =>
   simp only [hfd] at hm
   have hfd' : i.methods.find? (fun m => m.name == name) = some m := by rw [<- Array.find?_toList]; exact hfd
   split at hm
   ·next f' el hp hfn hdd =>
    cases hm
    have hu := jf hcx hdd
    have hpe : m.path.toList = [] := hp
    obtain ⟨d, hd⟩ : ∃ d, P.types.size + Made.depth = d + 1 := ⟨P.types.size + Made.depth - 1, by
     have h0 : 0 < Made.depth := by decide
     omega⟩
    simp only [Sem.run_bind, run_program, Result.andThen_ok, hd, method, run_typeInfo w hi', hfd', hpe, follow, Sem.run_pure, hfn, receiverAt, run_underlying hu, Place.get]
   ·cases hm
end
end Go.Ab
