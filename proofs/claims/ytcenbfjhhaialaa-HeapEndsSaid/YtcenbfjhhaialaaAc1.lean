/- The abstract evaluator: values, heap, the monad, the operations. No project text, no statement: definitions alone. -/
import Derived.Orders
import Derived.Below
set_option linter.unusedVariables false
set_option linter.unusedSectionVars false
set_option linter.unusedSimpArgs false
set_option linter.unnecessarySimpa false
namespace Go.Ab

/-- A slice's capacity: known, or to the end of its row, by elements of so many cells. -/
inductive Cap where
  | known (k : Nat)
  | upTo (sz : Nat)
  deriving Inhabited

/-- An abstract value: addresses are names of abstract blocks; a slice's capacity is known, or reaches to the end of its row. -/
inductive V where
  | bool (b : Bool)
  | int (k : IntKind) (n : Int)
  | str (s : List UInt8)
  | ptr (a : Option (Nat × Nat))
  | slice (a : Option (Nat × Nat)) (len : Nat) (cap : Cap)
  | map (r : Option Nat)
  | func (fn : Fn) (first captured : List V)
  | nilFunc
  | iface (t : TypeId) (v : V)
  | nilIface
  | agg (cs : List V)
  | tuple (vs : List V)
  /-- the yield function of a loop over a function: the loop's name -/
  | yld (n : Nat)
  deriving Inhabited

/-- How code is left. -/
inductive Ex where
  | normal
  | exit (id : Nat)
  | ret
  deriving Inhabited

/-- A loop over a function: may a round begin; is one under way; has one been left by a jump; is it over. -/
inductive LSt where
  | ready
  | busy
  | done (j : Ex)
  | over
  deriving Inhabited

/-- What lies at a name: cells (may they be written; is the block free of frozen marks), a map, a string's iterator; dead: never to be asked again. -/
inductive AObj where
  | cells (rw clean : Bool) (cs : List V)
  | map (rw : Bool) (es : List (V × V × Nat)) (clock : Nat)
  | siter (s : List UInt8) (pos : Nat)
  /-- an iterator over a map: the map, its clock at the beginning, the stamps handed out, the clock at the last step -/
  | miter (m : Option Nat) (since : Nat) (seen : List Nat) (last : Nat)
  /-- a loop over a function: how it stands, its block of deferred calls, the frame's size, what is known of the frame, the parameters, the code of a round -/
  | loop (st : LSt) (d N : Nat) (es : List (Nat × V)) (ps : List Nat) (assign body : Code)
  /-- a block of deferred calls, empty; one that has been taken -/
  | defs
  | spent
  | dead
  deriving Inhabited

/-- What is called: a function; the round of a loop. -/
inductive Tgt where
  | fn (f : Nat)
  | yl (n : Nat)

inductive Acc where
  | rd (n : Nat)
  | wr (n : Nat)

def Acc.name : Acc → Nat
  | .rd n => n
  | .wr n => n
def Acc.writes : Acc → Bool
  | .rd _ => false
  | .wr _ => true

/-- A lawful finite map. -/
class MapI (S : Type) (α : outParam Type) where
  emp : S
  get : S → Nat → Option α
  set : S → Nat → α → S
  get_emp : ∀ n, get emp n = none
  get_same : ∀ s n x, get (set s n x) n = some x
  get_ne : ∀ s n m x, n ≠ m → get (set s n x) m = get s m

inductive Res (H α : Type) where
  | ok (a : α) (h : H) (c : Nat) (l : List Acc)
  | err (e : String)

/-- The evaluator's monad: a heap, the next name, what was accessed. -/
def M (H α : Type) : Type := H → Nat → Res H α

section
variable {H : Type} {α β : Type}

def ret (a : α) : M H α := fun h c => .ok a h c []
def fail (e : String) : M H α := fun _ _ => .err e
def bnd (m : M H α) (f : α → M H β) : M H β := fun h c =>
  match m h c with
  | .err e => .err e
  | .ok a h c l =>
    match f a h c with
    | .err e => .err e
    | .ok b h c l' => .ok b h c (l ++ l')
/-- With what was accessed. -/
def listen (m : M H α) : M H (α × List Acc) := fun h c =>
  match m h c with
  | .err e => .err e
  | .ok a h c l => .ok (a, l) h c l
def lift (e : String) : Option α → M H α
  | some a => ret a
  | none => fail e

variable [MapI H AObj]
def getM (n : Nat) : M H AObj := fun h c =>
  match MapI.get h n with
  | some o => .ok o h c [.rd n]
  | none => .err "get: no such name"
def setM (n : Nat) (o : AObj) : M H Unit := fun h c =>
  match MapI.get h n with
  | some _ => .ok () (MapI.set h n o) c [.wr n]
  | none => .err "set: no such name"
def newM (o : AObj) : M H Nat := fun h c => .ok c (MapI.set h c o) (c + 1) [.wr c]
end

/-! ## Lists -/

def nth {α : Type} : List α → Nat → Option α
  | [], _ => none
  | x :: _, 0 => some x
  | _ :: l, n + 1 => nth l n
/-- The first cells are written over. -/
def ovr {α : Type} : List α → List α → List α
  | c :: cs, v :: vs => v :: ovr cs vs
  | cs, [] => cs
  | [], _ :: _ => []
def setAll {α : Type} : List α → Nat → List α → List α
  | cs, 0, vs => ovr cs vs
  | [], _ + 1, _ => []
  | c :: cs, o + 1, vs => c :: setAll cs o vs
/-- n cells from o on, if they are there. -/
def cut {α : Type} (cs : List α) (o n : Nat) : Option (List α) :=
  if o + n ≤ cs.length then some ((cs.drop o).take n) else none
def reps {α : Type} : Nat → List α → List α
  | 0, _ => []
  | n + 1, l => l ++ reps n l

/-! ## Constants -/

def toV1 : Value → Option V
  | .bool b => some (.bool b)
  | .int k n => some (.int k n)
  | .string s => some (.str s.data.toList)
  | .pointer none => some (.ptr none)
  | .slice none 0 0 => some (.slice none 0 (.known 0))
  | .map none => some (.map none)
  | .func (.func f) a b => match a.toList, b.toList with
    | [], [] => some (.func (.func f) [] [])
    | _, _ => none
  | .nilFunc => some .nilFunc
  | .nilIface => some .nilIface
  | _ => none
def toVs : List Value → Option (List V)
  | [] => some []
  | v :: vs => match toV1 v with
    | none => none
    | some x => match toVs vs with
      | none => none
      | some xs => some (x :: xs)
def toV : Value → Option V
  | .agg cs => match toVs cs.toList with
    | some l => some (.agg l)
    | none => none
  | v => toV1 v

/-! ## What the evaluator knows of the program -/

structure Cx where
  fn : Nat → Option Func
  ty : Nat → Option TypeInfo
  /-- how many globals are named -/
  ng : Nat
  /-- structs at which == is the plain one -/
  eqOk : Nat → Bool

def Cx.desc (cx : Cx) (t : Nat) : Option TypeDesc :=
  match cx.ty t with
  | some i => match i.desc with
    | .named _ u => match cx.ty u with
      | some j => some j.desc
      | none => none
    | d => some d
  | none => none
def Cx.size (cx : Cx) (t : Nat) : Option Nat :=
  match cx.ty t with
  | some i => some i.size
  | none => none
def Cx.zero (cx : Cx) (t : Nat) : Option V :=
  match cx.ty t with
  | some i => match i.zero with
    | some v => toV v
    | none => none
  | none => none
def aggD : TypeDesc → Bool
  | .struct _ | .array _ _ => true
  | _ => false

def cellsV : V → List V
  | .agg cs => cs
  | v => [v]
def one1 : V → Bool
  | .agg _ | .tuple _ => false
  | _ => true

section
variable {H : Type} [MapI H AObj]

/-! ## Memory -/

def loadC (n o k : Nat) : M H (List V) := bnd (getM n) fun
  | .cells _ _ cs => lift "load: no such cells" (cut cs o k)
  | _ => fail "load: not cells"
def storeC (n o : Nat) (vs : List V) : M H Unit := bnd (getM n) fun
  | .cells true cl cs =>
    if o + vs.length ≤ cs.length then
      if vs.all one1 then setM n (.cells true cl (setAll cs o vs)) else fail "store: not of one cell"
    else fail "store: no such cells"
  | _ => fail "store: not cells that may be written"
def loadT (cx : Cx) (t : Nat) (n o : Nat) : M H V :=
  match cx.desc t with
  | none => fail "load: type"
  | some d =>
    if aggD d then
      bnd (lift "load: size" (cx.size t)) fun k => bnd (loadC n o k) fun cs => ret (.agg cs)
    else bnd (loadC n o 1) fun
      | [v] => ret v
      | _ => fail "load: one cell"
def storeT (cx : Cx) (t : Nat) (n o : Nat) (v : V) : M H Unit :=
  match cx.size t with
  | none => fail "store: size"
  | some k => if (cellsV v).length = k then storeC n o (cellsV v) else fail "store: another size"

def asP : V → M H (Nat × Nat)
  | .ptr (some a) => ret a
  | _ => fail "pointer expected"
def asI : V → M H Int
  | .int _ n => ret n
  | _ => fail "int expected"

/-! ## Pure operations -/

def strEq : List UInt8 → List UInt8 → Bool
  | [], [] => true
  | a :: x, b :: y => Nat.beq a.toNat b.toNat && strEq x y
  | _, _ => false
def strLt : List UInt8 → List UInt8 → Bool
  | _, [] => false
  | [], _ :: _ => true
  | a :: x, b :: y => Nat.blt a.toNat b.toNat || (Nat.beq a.toNat b.toNat && strLt x y)

def intBin (op : BinOp) (k : IntKind) (x y : Int) : Option V :=
  match op with
  | .add => some (.int k (k.wrap (x + y)))
  | .sub => some (.int k (k.wrap (x - y)))
  | .mul => some (.int k (k.wrap (x * y)))
  | .quo => if y = 0 then none else some (.int k (k.wrap (x.tdiv y)))
  | .rem => if y = 0 then none else some (.int k (x.tmod y))
  | .and => some (.int k (k.wrap (BitVec.ofInt k.bits x &&& BitVec.ofInt k.bits y).toNat))
  | .or => some (.int k (k.wrap (BitVec.ofInt k.bits x ||| BitVec.ofInt k.bits y).toNat))
  | .xor => some (.int k (k.wrap (BitVec.ofInt k.bits x ^^^ BitVec.ofInt k.bits y).toNat))
  | .andNot => some (.int k (k.wrap (BitVec.ofInt k.bits x &&& ~~~ BitVec.ofInt k.bits y).toNat))
  | .eql => some (.bool (x == y))
  | .neq => some (.bool (x != y))
  | .lss => some (.bool (x < y))
  | .leq => some (.bool (x ≤ y))
  | .gtr => some (.bool (x > y))
  | .geq => some (.bool (x ≥ y))
  | _ => none
def shiftBin (op : BinOp) (k : IntKind) (x y : Int) : Option V :=
  if y < 0 then none else
  match op with
  | .shl => some (.int k (k.wrap (x * 2 ^ (min y.toNat k.bits))))
  | .shr => some (.int k (x.fdiv (2 ^ (min y.toNat k.bits))))
  | _ => none
def strBin (op : BinOp) (x y : List UInt8) : Option V :=
  match op with
  | .add => if x.length + y.length ≤ 1000000000 then some (.str (x ++ y)) else none
  | .eql => some (.bool (strEq x y))
  | .neq => some (.bool (!strEq x y))
  | .lss => some (.bool (strLt x y))
  | .leq => some (.bool (strLt x y || strEq x y))
  | .gtr => some (.bool (!(strLt x y || strEq x y)))
  | .geq => some (.bool (!strLt x y))
  | _ => none

def partV (cx : Cx) (t : Nat) (cs : List V) (off : Nat) : Option V :=
  match cx.desc t with
  | none => none
  | some d =>
    if aggD d then match cx.size t with
      | some k => (cut cs off k).map .agg
      | none => none
    else nth cs off

mutual
/-- Of two values of a type: are they one? (none: not asked here.) Pointers: eqM. -/
def eqV (cx : Cx) : Nat → Nat → V → V → Option Bool
  | 0, _, _, _ => none
  | f + 1, t, x, y =>
    match cx.desc t, x, y with
    | some .bool, .bool a, .bool b => some (a == b)
    | some (.int _), .int k a, .int k' b => if k = k' then some (a == b) else none
    | some .string, .str a, .str b => some (strEq a b)
    | some (.interface _), .nilIface, .iface _ _ => some false
    | some (.interface _), .iface _ _, .nilIface => some false
    | some (.interface _), .iface tx vx, .iface ty vy =>
      if tx ≠ ty then some false
      else match cx.ty tx with
        | some i => if i.comparable then eqV cx f tx vx vy else none
        | none => none
    | some (.struct fields), .agg xs, .agg ys => if cx.eqOk t then eqFs cx f fields.toList xs ys else none
    | _, _, _ => none
def eqFs (cx : Cx) : Nat → List Field → List V → List V → Option Bool
  | _, [], _, _ => some true
  | 0, _ :: _, _, _ => none
  | f + 1, d :: ds, xs, ys =>
    if d.name = "_" then none else
    match partV cx d.type xs d.offset, partV cx d.type ys d.offset with
    | some a, some b => match eqV cx f d.type a b with
      | some true => eqFs cx f ds xs ys
      | r => r
    | _, _ => none
end

/-- Of what the plain way does not ask: nil on one side, pointers. -/
def eqM (cx : Cx) (t : Nat) (x y : V) : M H Bool :=
  match cx.desc t, x, y with
  | some (.pointer _), .ptr none, .ptr b => ret b.isNone
  | some (.pointer _), .ptr (some _), .ptr none => ret false
  | some (.pointer e), .ptr (some (n, o)), .ptr (some (m, p)) =>
    match cx.size e with
    | some (_ + 1) =>
      if n = m then ret (o == p) else
      bnd (getM n) fun
        | .cells true true cs =>
          if o < cs.length then
            bnd (getM m) fun
              | .cells true true ds => if p < ds.length then ret false else fail "==: a pointer behind its block"
              | _ => fail "==: pointers"
          else fail "==: a pointer behind its block"
        | _ => fail "==: pointers"
    | _ => fail "==: pointers to nothing"
  | some (.slice _), .slice none _ _, .slice b _ _ => ret b.isNone
  | some (.slice _), .slice (some _) _ _, .slice none _ _ => ret false
  | some (.map _ _), .map none, .map b => ret b.isNone
  | some (.map _ _), .map (some _), .map none => ret false
  | some (.func _ _ _), .nilFunc, .nilFunc => ret true
  | some (.func _ _ _), .nilFunc, .func _ _ _ => ret false
  | some (.func _ _ _), .func _ _ _, .nilFunc => ret false
  | _, _, _ => lift "==: not asked here" (eqV cx 200 t x y)

def isConst : Operand → Bool
  | .const _ => true
  | _ => false

def binM (cx : Cx) (op : BinOp) (t : Nat) (cst : Bool) (x y : V) : M H V :=
  match op, x, y with
  | .shl, .int k a, .int _ b => lift "shift" (shiftBin .shl k a b)
  | .shr, .int k a, .int _ b => lift "shift" (shiftBin .shr k a b)
  | op, .int k a, .int k' b => if k = k' then lift "int" (intBin op k a b) else fail "kinds"
  | op, .str a, .str b => lift "str" (strBin op a b)
  | .eql, .nilIface, .nilIface => if cst then (match cx.desc t with | some (.interface _) => ret (.bool true) | _ => fail "==: nil") else fail "==: two nils"
  | .neq, .nilIface, .nilIface => if cst then (match cx.desc t with | some (.interface _) => ret (.bool false) | _ => fail "==: nil") else fail "==: two nils"
  | .eql, x, y => bnd (eqM cx t x y) fun b => ret (.bool b)
  | .neq, x, y => bnd (eqM cx t x y) fun b => ret (.bool (!b))
  | _, _, _ => fail "binop"

def unV (op : UnOp) : V → Option V
  | .bool b => match op with
    | .not => some (.bool !b)
    | _ => none
  | .int k n => match op with
    | .neg => some (.int k (k.wrap (0 - n)))
    | .xor => some (.int k (k.wrap (BitVec.ofInt k.bits (if k.signed then -1 else k.max) ^^^ BitVec.ofInt k.bits n).toNat))
    | _ => none
  | _ => none

/-! ## Making -/

def fillV (place : Nat → Option (Nat × Nat)) (cells : List V) : List (Nat × V) → Option (List V)
  | [] => some cells
  | (i, v) :: rest =>
    match place i with
    | none => none
    | some (off, size) =>
      if (cellsV v).length = size ∧ off + size ≤ cells.length then fillV place (setAll cells off (cellsV v)) rest
      else none
def placesV (cx : Cx) : List Field → Option (List (Nat × Nat))
  | [] => some []
  | f :: fs => match cx.size f.type, placesV cx fs with
    | some k, some r => some ((f.offset, k) :: r)
    | _, _ => none
def buildV (cx : Cx) (t : Nat) (parts : List (Nat × V)) : Option V :=
  match cx.zero t, cx.desc t with
  | some z, some (.struct fields) => match placesV cx fields.toList with
    | some ps => (fillV (fun i => nth ps i) (cellsV z) parts).map .agg
    | none => none
  | some z, some (.array _ e) => match cx.size e with
    | some k => (fillV (fun i => some (i * k, k)) (cellsV z) parts).map .agg
    | none => none
  | _, _ => none
/-- A zero element's cells. -/
def zlen (cx : Cx) (e : Nat) : Nat :=
  match cx.zero e with
  | some z => (cellsV z).length
  | none => 0

def zeroRow (cx : Cx) (e n : Nat) : Option (List V) :=
  match cx.size e, cx.zero e with
  | some (k + 1), some z => if (cellsV z).length = k + 1 then some (reps n (cellsV z)) else none
  | _, _ => none

def buildSliceM (cx : Cx) (t len : Nat) (parts : List (Nat × V)) : M H V :=
  match cx.desc t with
  | some (.slice e) => match cx.size e, zeroRow cx e len with
    | some k, some z =>
      if len * k ≤ 16777216 then
        bnd (lift "buildSlice" (fillV (fun i => some (i * k, k)) z parts)) fun cs =>
        bnd (newM (.cells true true cs)) fun n => ret (.slice (some (n, 0)) len (.known len))
      else fail "buildSlice: great"
    | _, _ => fail "buildSlice: size"
  | _ => fail "buildSlice: type"

def makeSliceM (cx : Cx) (t : Nat) (l c : V) : M H V :=
  match cx.desc t, l, c with
  | some (.slice e), .int _ l, .int _ c =>
    if 0 ≤ l ∧ l ≤ c ∧ c ≤ 1000000000 then
      match cx.ty e, zeroRow cx e c.toNat with
      | some i, some z =>
        if i.bytes ≤ 4096 then
          bnd (newM (.cells true true z)) fun n => ret (.slice (some (n, 0)) l.toNat (.known c.toNat))
        else fail "make: bytes"
      | _, _ => fail "make: size"
    else fail "make: bounds"
  | _, _, _ => fail "make: type"

/-- A bound of a slice expression. -/
def bound : Option V → Nat → Option Nat
  | none, d => some d
  | some (.int _ i), _ => if 0 ≤ i then some i.toNat else none
  | some _, _ => none

def sliceM (cx : Cx) (t : Nat) (x : V) (lo hi mx : Option V) : M H V :=
  match cx.desc t, x with
  | some .string, .str s =>
    match mx, bound lo 0, bound hi s.length with
    | none, some l, some h => if l ≤ h ∧ h ≤ s.length then ret (.str ((s.drop l).take (h - l))) else fail "slice: bounds"
    | _, _, _ => fail "slice: bounds"
  | some (.slice e), .slice a len cap =>
    match cx.size e, bound lo 0, bound hi len with
    | some k, some l, some h =>
      if l ≤ h then
        match mx, a, cap with
        | none, none, _ => if h = 0 then ret (.slice none 0 (.known 0)) else fail "slice: nil"
        | none, some (n, o), .known c =>
          if h ≤ c then ret (.slice (some (n, if c = l then o else o + l * k)) (h - l) (.known (c - l))) else fail "slice: bounds"
        | none, some (n, o), .upTo s =>
          if s = k ∧ 0 < k then
            if h ≤ len then ret (.slice (some (n, o + l * k)) (h - l) cap)
            else bnd (getM n) fun
              | .cells _ _ cs => if o + h * k ≤ cs.length then ret (.slice (some (n, o + l * k)) (h - l) cap) else fail "slice: into the spare"
              | _ => fail "slice: cells"
          else fail "slice: element"
        | some (.int _ m), none, _ => if hi.isSome = true ∧ 0 ≤ m ∧ h ≤ m.toNat ∧ m.toNat = 0 then ret (.slice none 0 (.known 0)) else fail "slice: bounds of three"
        | some (.int _ m), some (n, o), c =>
          if hi.isSome = true ∧ 0 ≤ m ∧ h ≤ m.toNat ∧ m.toNat ≤ (match c with | .known c => c | .upTo _ => len) then
            ret (.slice (some (n, if m.toNat = l then o else o + l * k)) (h - l) (.known (m.toNat - l)))
          else fail "slice: bounds of three"
        | _, _, _ => fail "slice: max"
      else fail "slice: bounds"
    | _, _, _ => fail "slice: bounds"
  | some (.array c e), .ptr (some (n, o)) =>
    match cx.size e, mx, bound lo 0, bound hi c with
    | some k, none, some l, some h =>
      if l ≤ h ∧ h ≤ c then ret (.slice (some (n, if c = l then o else o + l * k)) (h - l) (.known (c - l))) else fail "slice: bounds"
    | _, _, _, _ => fail "slice: array"
  | _, _ => fail "slice: type"

def indexAddrM (cx : Cx) (t : Nat) (x i : V) : M H V :=
  match cx.desc t, x, i with
  | some (.slice e), .slice (some (n, o)) len _, .int _ i =>
    if 0 ≤ i ∧ i < len then bnd (lift "index: size" (cx.size e)) fun k => ret (.ptr (some (n, o + i.toNat * k))) else fail "index: out of range"
  | some (.array len e), .ptr (some (n, o)), .int _ i =>
    if 0 ≤ i ∧ i < len then bnd (lift "index: size" (cx.size e)) fun k => ret (.ptr (some (n, o + i.toNat * k))) else fail "index: out of range"
  | _, _, _ => fail "indexAddr"

def indexV (cx : Cx) (t : Nat) (x i : V) : Option V :=
  match cx.desc t, x, i with
  | some (.array len e), .agg cs, .int _ i =>
    if 0 ≤ i ∧ i < len then match cx.size e with
      | some k => partV cx e cs (i.toNat * k)
      | none => none
    else none
  | some .string, .str s, .int _ i =>
    if 0 ≤ i then match nth s i.toNat with
      | some b => some (.int .u8 b.toNat)
      | none => none
    else none
  | _, _, _ => none

def fieldAddrV (cx : Cx) (s : Nat) (x : V) (f : Nat) : Option V :=
  match cx.desc s, x with
  | some (.struct fields), .ptr (some (n, o)) => match nth fields.toList f with
    | some d => match cx.size d.type with
      | some (_ + 1) => some (.ptr (some (n, o + d.offset)))
      | _ => none
    | none => none
  | _, _ => none
def fieldV (cx : Cx) (s : Nat) (x : V) (f : Nat) : Option V :=
  match cx.desc s, x with
  | some (.struct fields), .agg cs => match nth fields.toList f with
    | some d => partV cx d.type cs d.offset
    | none => none
  | _, _ => none

/-! ## Maps -/

def keyEq : V → V → Option Bool
  | .int k a, .int k' b => if k = k' then some (a == b) else none
  | .str a, .str b => some (strEq a b)
  | .bool a, .bool b => some (a == b)
  | _, _ => none
def keyOk (d : TypeDesc) (k : V) : Bool :=
  match d, k with
  | .int _, .int _ _ => true
  | .string, .str _ => true
  | .bool, .bool _ => true
  | _, _ => false
/-- The place of a key, and its element; none: a key that is not asked here. -/
def findK (k : V) : List (V × V × Nat) → Option (Option (Nat × V × Nat))
  | [] => some none
  | (q, v, b) :: es =>
    match keyEq k q with
    | some true => some (some (0, v, b))
    | some false => match findK k es with
      | some (some (i, x)) => some (some (i + 1, x))
      | r => r
    | none => none
def hasN (n : Nat) : List Nat → Bool
  | [] => false
  | m :: l => Nat.beq n m || hasN n l
/-- The entries whose stamps were not handed out. -/
def leftV : List (V × V × Nat) → List Nat → List (V × V × Nat)
  | [], _ => []
  | (k, v, b) :: es, seen => bif hasN b seen then leftV es seen else (k, v, b) :: leftV es seen
def lastNat : List Nat → Option Nat
  | [] => none
  | [b] => some b
  | _ :: l => lastNat l
/-- The entry of that stamp. -/
def findB (b : Nat) : List (V × V × Nat) → Option (V × V)
  | [] => none
  | (k, v, c) :: es => bif Nat.beq c b then some (k, v) else findB b es
def lookupM (cx : Cx) (t : Nat) (x i : V) (ok : Bool) : M H V :=
  match cx.desc t with
  | some (.map kt et) => match cx.desc kt with
    | some kd =>
      if keyOk kd i then
        bnd (match x with
          | .map none => ret (some none)
          | .map (some n) => bnd (getM n) fun
            | .map _ es _ => ret (findK i es)
            | _ => fail "lookup: map expected"
          | _ => fail "lookup: map expected") fun
        | none => fail "lookup: key"
        | some (some (_, v, _)) => ret (if ok then .tuple [v, .bool true] else v)
        | some none => bnd (lift "lookup: zero" (cx.zero et)) fun z => ret (if ok then .tuple [z, .bool false] else z)
      else fail "lookup: key's kind"
    | none => fail "lookup: key's type"
  | _ => fail "lookup: type"
def setNth {α : Type} : List α → Nat → α → List α
  | [], _, _ => []
  | _ :: l, 0, x => x :: l
  | y :: l, n + 1, x => y :: setNth l n x
def delNth {α : Type} : List α → Nat → List α
  | [], _ => []
  | _ :: l, 0 => l
  | y :: l, n + 1 => y :: delNth l n
def mapUpdateM (cx : Cx) (t : Nat) (m k x : V) : M H V :=
  match cx.desc t, m with
  | some (.map kt _), .map (some n) => match cx.desc kt with
    | some kd =>
      if keyOk kd k then
        bnd (getM n) fun
          | .map true es ck => match findK k es with
            | none => fail "map update: key"
            | some (some (i, _, b)) => bnd (setM n (.map true (setNth es i (k, x, b)) ck)) fun _ => ret (.tuple [])
            | some none => bnd (setM n (.map true (es ++ [(k, x, ck)]) (ck + 1))) fun _ => ret (.tuple [])
          | _ => fail "map update: map expected"
      else fail "map update: key's kind"
    | none => fail "map update: key's type"
  | _, _ => fail "map update"
def mapEntryM (cx : Cx) (t : Nat) (m k : V) : M H V :=
  match cx.desc t, m with
  | some (.map kt et), .map (some n) => match cx.desc kt with
    | some kd =>
      if keyOk kd k then
        bnd (getM n) fun
          | .map true es ck => match findK k es with
            | none => fail "map entry: key"
            | some (some (i, v, b)) => bnd (setM n (.map true (setNth es i (k, v, b)) ck)) fun _ => ret (.tuple [v, .int .i64 b])
            | some none => bnd (lift "map entry: zero" (cx.zero et)) fun z =>
              bnd (setM n (.map true (es ++ [(k, z, ck)]) (ck + 1))) fun _ => ret (.tuple [z, .int .i64 ck])
          | _ => fail "map entry: map expected"
      else fail "map entry: key's kind"
    | none => fail "map entry: key's type"
  | _, _ => fail "map entry"
/-- The first entry of that stamp gets the value. -/
def stampV (b : Int) (x : V) : List (V × V × Nat) → Option (List (V × V × Nat))
  | [] => none
  | (k, v, c) :: es => if (c : Int) == b then some ((k, x, c) :: es) else match stampV b x es with
    | some l => some ((k, v, c) :: l)
    | none => none
def entryStoreM (m s x : V) : M H V :=
  match m, s with
  | .map (some n), .int _ b => bnd (getM n) fun
    | .map true es ck => bnd (lift "entry store: gone" (stampV b x es)) fun es => bnd (setM n (.map true es ck)) fun _ => ret (.tuple [])
    | _ => fail "entry store: map expected"
  | _, _ => fail "entry store"
def deleteM (cx : Cx) (t : Nat) (m k : V) : M H V :=
  match cx.desc t with
  | some (.map kt _) => match cx.desc kt with
    | some kd =>
      if keyOk kd k then
        match m with
        | .map none => ret (.tuple [])
        | .map (some n) => bnd (getM n) fun
          | .map true es ck => match findK k es with
            | none => fail "delete: key"
            | some (some (i, _)) => bnd (setM n (.map true (delNth es i) ck)) fun _ => ret (.tuple [])
            | some none => bnd (setM n (.map true es ck)) fun _ => ret (.tuple [])
          | _ => fail "delete: map expected"
        | _ => fail "delete: map expected"
      else fail "delete: key's kind"
    | none => fail "delete: key's type"
  | _ => fail "delete: type"

/-! ## Built-ins -/

def lenM (cx : Cx) (t : Nat) (x : V) : M H V :=
  match cx.desc t, x with
  | some .string, .str s => ret (.int .i64 s.length)
  | some (.array n _), _ => ret (.int .i64 n)
  | some (.slice _), .slice _ n _ => ret (.int .i64 n)
  | some (.map _ _), .map none => ret (.int .i64 0)
  | some (.map _ _), .map (some n) => bnd (getM n) fun
    | .map _ es _ => ret (.int .i64 es.length)
    | _ => fail "len: map expected"
  | _, _ => fail "len"

def u8s (s : List UInt8) : List V := s.map fun b => .int .u8 b.toNat

/-- n elements of k cells from a slice's (a string's) beginning. -/
def firstM (k n : Nat) : V → M H (List V)
  | .slice (some (m, o)) len _ => if n = 0 then ret [] else if n ≤ len then loadC m o (n * k) else fail "first: fewer"
  | .slice none _ _ => if n = 0 then ret [] else fail "first: nil"
  | .str s => if n ≤ s.length then ret (u8s (s.take n)) else fail "first: string"
  | _ => fail "first"

/-- x's elements, as cells, and how many they are. -/
def appendedM (cx : Cx) (e k : Nat) (xt : Option Nat) (x : V) : M H (Nat × List V) :=
  match (match xt with | some t => cx.desc t | none => some .invalid) with
  | some (.int _) => match x with
    | .int _ l => if 0 ≤ l ∧ l ≤ 1000000000 then bnd (lift "append: zero" (zeroRow cx e l.toNat)) fun z => ret (l.toNat, z) else fail "append: make"
    | _ => fail "append: make"
  | some _ => match x with
    | .slice _ n _ => bnd (firstM k n x) fun cs => ret (n, cs)
    | .str s => if k = 1 then ret (s.length, u8s s) else fail "append: string"
    | _ => fail "append: what"
  | none => fail "append: type"

def growM (k : Nat) (cs new : List V) (need : Nat) : M H V :=
  bnd (newM (.cells true true (cs ++ new))) fun n => ret (.slice (some (n, 0)) need (.upTo k))

def appendM (cx : Cx) (ts : List Nat) (xs : List V) : M H V :=
  match ts, xs with
  | st :: xt, s :: x :: _ => match cx.desc st, s with
    | some (.slice e), .slice a len cap => match cx.ty e, cx.size e with
      | some i, some (k' + 1) =>
        bnd (appendedM cx e (k' + 1) xt.head? x) fun (n, new) =>
        if new.length = n * (k' + 1) ∧ len + n ≤ 1000000000 ∧ i.bytes ≤ 4096 ∧ zlen cx e = k' + 1 then
          match a, cap with
          | none, _ => if len = 0 then (if n = 0 then ret s else growM (k' + 1) [] new n) else fail "append: nil"
          | some (m, o), .known c =>
            if len + n ≤ c then
              (if n = 0 then ret s else bnd (storeC m (o + len * (k' + 1)) new) fun _ => ret (.slice a (len + n) cap))
            else bnd (firstM (k' + 1) len s) fun old => growM (k' + 1) old new (len + n)
          | some (m, o), .upTo sz =>
            if n = 0 then ret s else if sz ≠ k' + 1 then fail "append: element" else
            bnd (getM m) fun
              | .cells true cl cs =>
                if o + (len + n) * (k' + 1) ≤ cs.length then
                  (if new.all one1 then bnd (setM m (.cells true cl (setAll cs (o + len * (k' + 1)) new))) fun _ => ret (.slice a (len + n) cap) else fail "append: cells")
                else match cut cs o (len * (k' + 1)) with
                  | some old => bnd (setM m .dead) fun _ =>
                    if (old ++ new).all one1 then bnd (newM (.cells true (Nat.beq o 0 && cl) (old ++ new))) fun r => ret (.slice (some (r, 0)) (len + n) cap) else fail "append: cells"
                  | none => fail "append: its own cells"
              | _ => fail "append: not cells of its own"
        else fail "append: sizes"
      | _, _ => fail "append: element"
    | _, _ => fail "append: slice"
  | _, _ => fail "append: arguments"

def copyM (cx : Cx) (t : Nat) (d s : V) : M H V :=
  match cx.desc t, d with
  | some (.slice e), .slice a dl _ => match cx.size e with
    | some k =>
      bnd (match s with | .slice _ n _ => ret n | .str b => if k = 1 then ret b.length else fail "copy: string" | _ => fail "copy: source") fun sl =>
      bnd (firstM k (min sl dl) s) fun cs =>
      match a with
      | none => ret (.int .i64 0)
      | some (n, o) => if min sl dl = 0 then ret (.int .i64 0) else bnd (storeC n o cs) fun _ => ret (.int .i64 (min sl dl : Nat))
    | none => fail "copy: size"
  | _, _ => fail "copy"

def clearM (cx : Cx) (t : Nat) (x : V) : M H V :=
  match cx.desc t, x with
  | some (.slice e), .slice a n _ =>
    match a with
    | none => ret (.tuple [])
    | some (m, o) => if n = 0 then ret (.tuple []) else
      bnd (lift "clear: zero" (zeroRow cx e n)) fun z => if z.all one1 = true then bnd (storeC m o z) fun _ => ret (.tuple []) else fail "clear: cells"
  | _, _ => fail "clear"
def capM (cx : Cx) (t : Nat) (x : V) : M H V :=
  match cx.desc t, x with
  | some (.slice _), .slice _ _ (.known k) => ret (.int .i64 k)
  | _, _ => fail "cap"

def minI (k : IntKind) : Int → List V → Option V
  | x, [] => some (.int k x)
  | x, .int k' y :: r => if k = k' then minI k (if y < x then y else x) r else none
  | _, _ :: _ => none
def minV : List V → Option V
  | .int k x :: r => minI k x r
  | _ => none
def maxI (k : IntKind) : Int → List V → Option V
  | x, [] => some (.int k x)
  | x, .int k' y :: r => if k = k' then maxI k (if y > x then y else x) r else none
  | _, _ :: _ => none
def maxV : List V → Option V
  | .int k x :: r => maxI k x r
  | _ => none

def builtinM (cx : Cx) (b : Builtin) (ts : List Nat) (xs : List V) : M H V :=
  match b, ts, xs with
  | .append, ts, xs => appendM cx ts xs
  | .len, t :: _, x :: _ => lenM cx t x
  | .copy, t :: _, d :: s :: _ => copyM cx t d s
  | .delete, t :: _, m :: k :: _ => deleteM cx t m k
  | .clear, t :: _, x :: _ => clearM cx t x
  | .cap, t :: _, x :: _ => capM cx t x
  | .min, _, xs => lift "min" (minV xs)
  | .max, _, xs => lift "max" (maxV xs)
  | _, _, _ => fail "builtin"

/-! ## Conversions, interfaces -/

def bytesOfV : List V → Option (List UInt8)
  | [] => some []
  | .int .u8 n :: r => if 0 ≤ n ∧ n < 256 then match bytesOfV r with
      | some l => some (UInt8.ofNat n.toNat :: l)
      | none => none
    else none
  | _ :: _ => none

/-- The runes of a string, from a place on. -/
def runesL (s : ByteArray) : Nat → Nat → List Int
  | 0, _ => []
  | b + 1, i => if i < s.size then Int.ofNat (Utf8.decode s i).1 :: runesL s b (i + (Utf8.decode s i).2) else []
def i32s (l : List Int) : List V := l.map fun z => .int .i32 z

def convertM (cx : Cx) (src dst : Nat) (x : V) : M H V :=
  match cx.desc src, cx.desc dst, x with
  | some (.int _), some (.int k), .int _ n => ret (.int k (k.wrap n))
  | some .string, some .string, .str s => ret (.str s)
  | some .string, some (.slice e), .str s => match cx.desc e with
    | some (.int .u8) =>
      if s.length ≤ 1000000000 then
      bnd (newM (.cells true false (u8s s))) fun n => ret (.slice (some (n, 0)) s.length (.upTo 1))
      else fail "convert: great"
    | some (.int .i32) =>
      bnd (newM (.cells true true (i32s (runesL ⟨⟨s⟩⟩ s.length 0)))) fun n => ret (.slice (some (n, 0)) (runesL ⟨⟨s⟩⟩ s.length 0).length (.upTo 1))
    | _ => fail "convert: to a slice of what"
  | some (.slice e), some .string, .slice a len _ => match cx.desc e with
    | some (.int .u8) => match a with
      | none => ret (.str [])
      | some (n, o) => if len = 0 then ret (.str []) else bnd (loadC n o len) fun cs => bnd (lift "convert: bytes" (bytesOfV cs)) fun s => ret (.str s)
    | _ => fail "convert: of a slice of what"
  | _, _, _ => fail "convert"

def assertM (cx : Cx) (x : V) (want : Nat) (ok : Bool) : M H V :=
  match cx.desc want, x with
  | some (.interface _), _ => fail "assert: to an interface"
  | some _, .iface t v =>
    if t = want then ret (if ok then .tuple [v, .bool true] else v)
    else if ok then bnd (lift "assert: zero" (cx.zero want)) fun z => ret (.tuple [z, .bool false]) else fail "assert: fails"
  | some _, .nilIface => if ok then bnd (lift "assert: zero" (cx.zero want)) fun z => ret (.tuple [z, .bool false]) else fail "assert: nil"
  | _, _ => fail "assert"

def methodV (cx : Cx) (t : Nat) (name : String) : Option Nat :=
  match cx.ty t with
  | some i => match i.methods.toList.find? (fun m => m.name == name) with
    | some m => match m.path.toList, m.func, cx.desc t with
      | [], some (f, true), some (.pointer _) => some f
      | _, _, _ => none
    | none => none
  | none => none

/-! ## Operations -/

def undefV : V := .tuple []

end

section
variable {H E : Type} [MapI H AObj] [MapI E V]

def ev1 (cx : Cx) (e : E) : Operand → Option V
  | .tmp t => MapI.get e t
  | .const v => toV v
  | .global g => if g < cx.ng then some (.ptr (some (g, 0))) else none
  | .func f => some (.func (.func f) [] [])
def evs (cx : Cx) (e : E) : List Operand → Option (List V)
  | [] => some []
  | x :: l => match ev1 cx e x with
    | none => none
    | some v => match evs cx e l with
      | none => none
      | some vs => some (v :: vs)
def evParts (cx : Cx) (e : E) : List (Nat × Operand) → Option (List (Nat × V))
  | [] => some []
  | (i, x) :: l => match ev1 cx e x with
    | none => none
    | some v => match evParts cx e l with
      | none => none
      | some vs => some ((i, v) :: vs)
def evO (cx : Cx) (e : E) : Option Operand → Option (Option V)
  | none => some none
  | some x => match ev1 cx e x with
    | some v => some (some v)
    | none => none

def callM (cx : Cx) (call : Tgt → List V → M H V) (e : E) (c : Call) : M H V :=
  bnd (lift "call: arguments" (evs cx e c.args.toList)) fun xs =>
  match c.callee with
  | .builtin b => builtinM cx b c.argTypes.toList xs
  | .value f => bnd (lift "call: function" (ev1 cx e f)) fun
    | .func (.func f) first captured => call (.fn f) (first ++ xs ++ captured)
    | .yld n => call (.yl n) xs
    | _ => fail "call: what"
  | .invoke r name => bnd (lift "call: receiver" (ev1 cx e r)) fun
    | .iface t v => bnd (lift "call: method" (methodV cx t name)) fun f => call (.fn f) (v :: xs)
    | _ => fail "call: on what"

def opM (cx : Cx) (call : Tgt → List V → M H V) (e : E) (o : Oper) : M H V :=
  let v1 (x : Operand) (k : V → M H V) : M H V := bnd (lift "operand" (ev1 cx e x)) k
  match o.op with
  | .move x | .assign x => lift "operand" (ev1 cx e x)
  | .pick c a b => v1 c fun
    | .bool true => lift "operand" (ev1 cx e a)
    | .bool false => lift "operand" (ev1 cx e b)
    | _ => fail "pick"
  | .alloc t => bnd (lift "alloc" (cx.zero t)) fun z => bnd (newM (.cells true true (cellsV z))) fun n => ret (.ptr (some (n, 0)))
  | .box _ x => v1 x fun v => bnd (newM (.cells true true (cellsV v))) fun n => ret (.ptr (some (n, 0)))
  | .build t ps => bnd (lift "operand" (evParts cx e ps.toList)) fun ps => lift "build" (buildV cx t ps)
  | .buildSlice t len ps => bnd (lift "operand" (evParts cx e ps.toList)) fun ps => buildSliceM cx t len ps
  | .load t x => v1 x fun a => bnd (asP a) fun (n, o) => loadT cx t n o
  | .store t x y => v1 x fun a => v1 y fun v => bnd (asP a) fun (n, o) => bnd (storeT cx t n o v) fun _ => ret (.tuple [])
  | .nilCheck x => v1 x fun
    | .ptr (some a) => ret (.ptr (some a))
    | .func (.func f) a b => ret (.func (.func f) a b)
    | .yld n => ret (.yld n)
    | .iface t v => ret (.iface t v)
    | _ => fail "nilCheck"
  | .binOp op t x y _ => v1 x fun a => v1 y fun b => binM cx op t (isConst x || isConst y) a b
  | .unOp op _ x => v1 x fun a => lift "unop" (unV op a)
  | .convert s d x => v1 x fun a => convertM cx s d a
  | .makeInterface t x => v1 x fun a => match cx.desc t with
    | some (.interface _) => fail "makeInterface"
    | some _ => ret (.iface t a)
    | none => fail "makeInterface"
  | .makeFunc (.func f) first captured =>
    bnd (lift "operand" (evs cx e first.toList)) fun a => bnd (lift "operand" (evs cx e captured.toList)) fun b => ret (.func (.func f) a b)
  | .makeMap t r =>
    bnd (match r with
      | none => ret ()
      | some x => v1 x (fun
        | .int _ _ => match cx.desc t with
          | some (.map _ _) => ret .nilFunc
          | _ => fail "makeMap"
        | _ => fail "makeMap") |> fun m => bnd m fun _ => ret ()) fun _ =>
    bnd (newM (.map true [] 0)) fun n => ret (.map (some n))
  | .makeSlice t l c => v1 l fun a => v1 c fun b => makeSliceM cx t a b
  | .slice t x lo hi mx => v1 x fun a =>
    bnd (lift "operand" (evO cx e lo)) fun lo => bnd (lift "operand" (evO cx e hi)) fun hi => bnd (lift "operand" (evO cx e mx)) fun mx => sliceM cx t a lo hi mx
  | .fieldAddr s x f => v1 x fun a => lift "fieldAddr" (fieldAddrV cx s a f)
  | .field s x f => v1 x fun a => lift "field" (fieldV cx s a f)
  | .indexAddr t x i => v1 x fun a => v1 i fun b => indexAddrM cx t a b
  | .index t x i => v1 x fun a => v1 i fun b => lift "index" (indexV cx t a b)
  | .lookup t x i ok => v1 x fun a => v1 i fun b => lookupM cx t a b ok
  | .mapUpdate t m k x | .insert t m k x => v1 m fun a => v1 k fun b => v1 x fun c => mapUpdateM cx t a b c
  | .mapEntry t m k => v1 m fun a => v1 k fun b => mapEntryM cx t a b
  | .entryStore _ m s x => v1 m fun a => v1 s fun b => v1 x fun c => entryStoreM a b c
  | .range t x => v1 x fun
    | .str s => match cx.desc t with
      | some .string => bnd (newM (.siter s 0)) fun n => ret (.ptr (some (n, 0)))
      | _ => fail "range"
    | .map none => match cx.desc t with
      | some (.map _ _) => bnd (newM (.miter none 0 [] 0)) fun n => ret (.ptr (some (n, 0)))
      | _ => fail "range"
    | .map (some q) => match cx.desc t with
      | some (.map _ _) => bnd (getM q) fun
        | .map _ _ ck => bnd (newM (.miter (some q) ck [] ck)) fun n => ret (.ptr (some (n, 0)))
        | _ => fail "range: map expected"
      | _ => fail "range"
    | _ => fail "range"
  | .next x false => v1 x fun
    | .ptr (some (n, 0)) => bnd (getM n) fun
      | .miter none _ _ _ => ret (.tuple [.bool false])
      | .miter (some q) since seen last => bnd (getM q) fun
        | .map _ es ck =>
          if (es.all fun x => Nat.blt x.2.2 since) = true ∧ since ≤ last then
            match leftV es seen with
            | [] => ret (.tuple [.bool false])
            | [(k, v, b)] => bnd (setM n (.miter (some q) since (seen ++ [b]) ck)) fun _ => ret (.tuple [.bool true, k, v])
            | _ :: _ :: _ => fail "next: which entry"
          else fail "next: new entries"
        | _ => fail "next: map expected"
      | _ => fail "next: iterator"
    | _ => fail "next"
  | .entry x => v1 x fun
    | .ptr (some (n, 0)) => bnd (getM n) fun
      | .miter (some q) since seen last => bnd (getM q) fun
        | .map _ es ck =>
          if ck = last then
            match lastNat seen with
            | some b => match findB b es with
              | some (k, v) => ret (.tuple [k, v])
              | none => fail "entry: gone"
            | none => fail "entry: no step yet"
          else fail "entry: an insertion"
        | _ => fail "entry: map expected"
      | _ => fail "entry: iterator"
    | _ => fail "entry"
  | .next x true => v1 x fun
    | .ptr (some (n, 0)) => bnd (getM n) fun
      | .siter s pos =>
        if pos < s.length then
          match Utf8.decode ⟨⟨s⟩⟩ pos with
          | (c, width) => bnd (setM n (.siter s (pos + width))) fun _ => ret (.tuple [.bool true, .int .i64 pos, .int .i32 c])
        else ret (.tuple [.bool false])
      | _ => fail "next: iterator"
    | _ => fail "next"
  | .typeAssert x _ t ok => v1 x fun a => assertM cx a t ok
  | .extract x i => v1 x fun
    | .tuple vs => lift "extract" (nth vs i)
    | _ => fail "extract"
  | .call c => callM cx call e c
  | _ => fail "operation"

/-! ## Regions -/

def dstOf (ops : List Oper) (j : Nat) : Option Tmp :=
  match nth ops j with
  | some o => o.dst
  | none => none
/-- Is the operation wanted? (none: what its guard yielded is not known.) -/
def wantedV (ops : List Oper) (e : E) (o : Oper) : Option Bool :=
  match o.guard with
  | none => some true
  | some (j, want) => match dstOf ops j with
    | none => some false
    | some d => match MapI.get e d with
      | none => none
      | some (.bool b) => some (b == want)
      | some _ => some false
def putE (N : Nat) (e : E) (d : Option Tmp) (v : V) : M H E :=
  match d with
  | none => ret e
  | some d => if d < N then ret (MapI.set e d v) else fail "put"
/-- One operation: the frame behind it. -/
def stepOp (cx : Cx) (call : Tgt → List V → M H V) (N : Nat) (ops : List Oper) (o : Oper) (e : E) : M H E :=
  match wantedV ops e o with
  | some true => bnd (opM cx call e o) fun v => putE N e o.dst v
  | some false => putE N e o.dst undefV
  | none => fail "guard"
def evOps (cx : Cx) (call : Tgt → List V → M H V) (N : Nat) (ops : List Oper) : List Oper → E → M H E
  | [], e => ret e
  | o :: l, e => bnd (stepOp cx call N ops o e) fun e => evOps cx call N ops l e
/-- In the text's order, each operation with what it accessed. -/
def evLog (cx : Cx) (call : Tgt → List V → M H V) (N : Nat) (ops : List Oper) : List Oper → E → M H (E × List (List Acc))
  | [], e => ret (e, [])
  | o :: l, e => bnd (listen (stepOp cx call N ops o e)) fun (e, a) => bnd (evLog cx call N ops l e) fun (e, as) => ret (e, a :: as)

/-- Which operations stand ahead of each, by the edges that bind: as bits. -/
def depsOf (acc : List Nat) (o : Oper) : Nat :=
  o.after.toList.foldl (fun s x => if Region.binds .any x then s ||| 2 ^ x.on ||| (nth acc x.on).getD 0 else s) 0
def closure : List Oper → List Nat → List Nat
  | [], acc => acc
  | o :: l, acc => closure l (acc ++ [depsOf acc o])

def hitsOne (n : Nat) (w : Bool) : List Acc → Bool
  | [] => false
  | a :: l => (Nat.beq a.name n && (w || a.writes)) || hitsOne n w l
/-- Do two operations meet at a name that one of them writes? -/
def meet : List Acc → List Acc → Bool
  | [], _ => false
  | a :: l, m => hitsOne a.name a.writes m || meet l m
/-- No operation of the row meets one behind it that is not tied to it. -/
def apartFrom (i : Nat) (a : List Acc) : List (Nat × List Acc) → Bool
  | [] => true
  | (deps, b) :: l => (deps.testBit i || !meet a b) && apartFrom i a l
def allApart : Nat → List (Nat × List Acc) → Bool
  | _, [] => true
  | i, (_, a) :: l => (match a with | [] => true | _ => apartFrom i a l) && allApart (i + 1) l
def anyWrite : List (List Acc) → Bool
  | [] => false
  | a :: l => a.any Acc.writes || anyWrite l
def logsOk (ops : List Oper) (logs : List (List Acc)) : Bool :=
  !anyWrite logs || allApart 0 ((closure ops []).zip logs)

def evDrawn (cx : Cx) (call : Tgt → List V → M H V) (N : Nat) (ops : List Oper) (e : E) : M H E :=
  bnd (evLog cx call N ops ops e) fun (e, logs) => if logsOk ops logs then ret e else fail "a region's operations meet"

/-! ## Code -/

/-- How it was left, the frame, the marks of the loops over functions. -/
abbrev Out (E : Type) : Type := Ex × E × List Nat

def loopM (body : List Nat → E → M H (Out E)) : Nat → List Nat → E → M H (Out E)
  | 0, _, _ => fail "loop: fuel"
  | n + 1, ms, e => bnd (body ms e) fun
    | (.normal, e, ms) => loopM body n ms e
    | r => Ab.ret r

/-- What is known of the first slots of a frame. -/
def known (e : E) : Nat → List (Nat × V)
  | 0 => []
  | n + 1 => match MapI.get e n with
    | some v => (n, v) :: known e n
    | none => known e n

def bodied (cx : Cx) (f : Nat) : Bool :=
  match cx.fn f with
  | some fn => fn.body.isSome
  | none => false

/-- 'rd': the code of a round. -/
def evCode (cx : Cx) (call : Tgt → List V → M H V) (rd : Bool) (N : Nat) (n : Nat) : Code → List Nat → E → M H (Out E)
  | .skip, ms, e => Ab.ret (.normal, e, ms)
  | .region _ ops draw, ms, e =>
    bnd (if draw then evDrawn cx call N ops.toList e else evOps cx call N ops.toList ops.toList e) fun e => Ab.ret (.normal, e, ms)
  | .seq a b, ms, e => bnd (evCode cx call rd N n a ms e) fun
    | (.normal, e, ms) => evCode cx call rd N n b ms e
    | r => Ab.ret r
  | .cond c a b, ms, e => bnd (lift "cond" (ev1 cx e c)) fun
    | .bool true => evCode cx call rd N n a ms e
    | .bool false => evCode cx call rd N n b ms e
    | _ => fail "cond"
  | .block id b, ms, e => bnd (evCode cx call rd N n b ms e) fun
    | (.exit i, e, ms) => if i = id then Ab.ret (.normal, e, ms) else Ab.ret (.exit i, e, ms)
    | r => Ab.ret r
  | .loop b, ms, e => loopM (evCode cx call rd N n b) n ms e
  | .exit id, ms, e => Ab.ret (.exit id, e, ms)
  | .label _, ms, e => Ab.ret (.normal, e, ms)
  | .ret, ms, e => Ab.ret (.ret, e, ms)
  | .refuse w, _, _ => fail ("refused: " ++ w)
  | .scope _, _, _ => fail "scope"
  | .goto _, _, _ => fail "goto"
  | .rangeFunc g ps assign body, ms, e =>
    if rd then fail "a loop over a function within a round" else
    bnd (lift "range: function" (ev1 cx e g)) fun
      | .func (.func gf) [] captured =>
        if bodied cx gf then
        bnd (newM .defs) fun d =>
        bnd (newM (.loop .ready d N (known e N) ps.toList assign body)) fun l =>
        bnd (call (.fn gf) (.yld l :: captured)) fun _ =>
        bnd (getM l) fun
          | .loop .ready d' N' es' ps' as' bo' => bnd (setM l (.loop .over d' N' es' ps' as' bo')) fun _ => Ab.ret (.normal, e, d :: ms)
          | .loop (.done j) d' N' es' ps' as' bo' => bnd (setM l (.loop .over d' N' es' ps' as' bo')) fun _ => Ab.ret (j, e, d :: ms)
          | _ => fail "range: the loop"
        else fail "range: over a function without a body"
      | _ => fail "range: over what"

/-! ## Functions -/

def initE : List V → Nat → E → E
  | [], _, e => e
  | v :: l, i, e => initE l (i + 1) (MapI.set e i v)
def initL : List (Nat × V) → E → E
  | [], e => e
  | (t, v) :: l, e => initL l (MapI.set e t v)
def resM (cx : Cx) (e : E) : List ResultVar → M H (List V)
  | [] => Ab.ret []
  | .tmp t :: l => bnd (lift "result" (MapI.get e t)) fun v => bnd (resM cx e l) fun vs => Ab.ret (v :: vs)
  | .cell a t :: l => bnd (lift "result" (MapI.get e a)) fun x => bnd (asP x) fun (n, o) =>
    bnd (loadT cx t n o) fun v => bnd (resM cx e l) fun vs => Ab.ret (v :: vs)
def tup : List V → V
  | [v] => v
  | vs => .tuple vs
/-- The marks are come to: their blocks hold no call. -/
def spendM : List Nat → M H Unit
  | [] => Ab.ret ()
  | d :: ms => bnd (getM d) fun
    | .defs => bnd (setM d .spent) fun _ => spendM ms
    | _ => fail "a mark"

/-- A function's body, its callees by 'call'. -/
def bodyM (E : Type) [MapI E V] (cx : Cx) (call : Tgt → List V → M H V) (n : Nat) (f : Nat) (xs : List V) : M H V :=
  match cx.fn f with
  | none => fail "no such function"
  | some fn => match fn.body with
    | none => fail ("no body: " ++ fn.name)
    | some c =>
      if xs.length ≤ fn.ntmps then
        bnd (evCode cx call false fn.ntmps n c [] (initE xs 0 (MapI.emp : E))) fun
          | (.exit _, _, _) => fail "exit"
          | (_, e, ms) => bnd (spendM ms) fun _ => bnd (resM cx e fn.results.toList) fun vs => Ab.ret (tup vs)
      else fail "arguments"
/-- A round of a loop over a function. -/
def roundM (E : Type) [MapI E V] (cx : Cx) (call : Tgt → List V → M H V) (n : Nat) (l : Nat) (xs : List V) : M H V :=
  bnd (getM l) fun
    | .loop .ready _ N es ps assign body =>
      if xs.length = ps.length ∧ (ps.all fun t => Nat.blt t N) = true then
        bnd (evCode cx call true N n assign [] (initL (ps.zip xs) (initL es (MapI.emp : E)))) fun
          | (.normal, e, ms) => bnd (getM l) fun
            | .loop .ready d N' es' ps' as' bo' => bnd (setM l (.loop .busy d N' es' ps' as' bo')) fun _ =>
              bnd (evCode cx call true N n body ms e) fun (x, _, _) => bnd (getM l) fun
                | .loop .busy d N' es' ps' as' bo' => match x with
                  | .normal => bnd (setM l (.loop .ready d N' es' ps' as' bo')) fun _ => Ab.ret (.bool true)
                  | j => bnd (setM l (.loop (.done j) d N' es' ps' as' bo')) fun _ => Ab.ret (.bool false)
                | _ => fail "round: its end"
            | _ => fail "round: its begin"
          | _ => fail "round: its parameters"
      else fail "round: arguments"
    | _ => fail "round"
/-- Functions by fuel; 'prim' answers first. -/
def evFn (E : Type) [MapI E V] (cx : Cx) (prim : Nat → Option ((Tgt → List V → M H V) → List V → M H V)) : Nat → Tgt → List V → M H V
  | 0, _, _ => fail "fuel"
  | n + 1, .fn f, xs => match prim f with
    | some m => m (evFn E cx prim n) xs
    | none => bodyM E cx (evFn E cx prim n) n f xs
  | n + 1, .yl l, xs => roundM E cx (evFn E cx prim n) n l xs
end
/-! ## Code that may be run -/

def tmpsOf : List Operand → List Nat
  | [] => []
  | .tmp t :: l => t :: tmpsOf l
  | _ :: l => tmpsOf l
/-- The temporaries that an operation reads. -/
def looks (ops : List Oper) (o : Oper) : List Nat :=
  match o.guard with
  | none => tmpsOf o.op.operands.toList
  | some (g, _) => match dstOf ops g with
    | some d => d :: tmpsOf o.op.operands.toList
    | none => tmpsOf o.op.operands.toList

def hasNat (n : Nat) : List Nat → Bool
  | [] => false
  | m :: l => Nat.beq n m || hasNat n l
def dstIn (d : Option Nat) (l : List Nat) : Bool :=
  match d with
  | some d => hasNat d l
  | none => false
def sameDst : Option Nat → Option Nat → Bool
  | some a, some b => Nat.beq a b
  | _, _ => false
/-- One operation against those behind it. -/
def freeOf (i : Nat) (d : Option Nat) (ls : List Nat) : List (Nat × Option Nat × List Nat) → Bool
  | [] => true
  | (dep, d', ls') :: l => (dep.testBit i || (!dstIn d ls' && !dstIn d' ls && !sameDst d d')) && freeOf i d ls l
def allFree : Nat → List (Nat × Option Nat × List Nat) → Bool
  | _, [] => true
  | i, (_, d, ls) :: l => freeOf i d ls l && allFree (i + 1) l
def edgesOk : Nat → List Oper → Bool
  | _, [] => true
  | i, o :: l => o.after.toList.all (fun x => !Region.binds .any x || Nat.blt x.on i) && edgesOk (i + 1) l
def regOk (ops : List Oper) : Bool :=
  edgesOk 0 ops && allFree 0 ((closure ops []).zip (ops.map fun o => (o.dst, looks ops o)))

/-- Every region that draws its order is one whose operations are tied where they share temporaries. -/
def goodCode : Code → Bool
  | .region _ ops draw => !draw || regOk ops.toList
  | .seq a b => goodCode a && goodCode b
  | .cond _ a b => goodCode a && goodCode b
  | .block _ b => goodCode b
  | .loop b => goodCode b
  | .rangeFunc _ _ a b => goodCode a && goodCode b
  | _ => true

end Go.Ab
