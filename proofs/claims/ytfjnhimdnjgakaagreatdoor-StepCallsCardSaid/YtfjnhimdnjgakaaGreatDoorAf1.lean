/- The evaluator once more, for the kernel: code is read once into short instructions; frames by paths; what comes next is handed on. Definitions alone. -/
import Derived.Test.YtfjnhimdnjgakaaGreatDoorAcTr
set_option linter.unusedVariables false
set_option linter.unusedSectionVars false
namespace Go.Ab

abbrev HT := Tr AObj
abbrev ET := Tr V
abbrev KV := V → HT → Nat → List Acc → Bool
abbrev KE := ET → HT → Nat → List Acc → Bool
abbrev Fa := HT → Nat → List Acc → KV → Bool

/-! ## Frames -/

/-- Where a slot lies in a tree of bits. -/
inductive Pa where
  | z
  | a (p : Pa)
  | b (p : Pa)
noncomputable def paS (ih : Nat → Pa) (k : Nat) : Pa :=
  Nat.rec (motive := fun _ => Pa) .z (fun _ _ => Nat.rec (motive := fun _ => Pa) (.b (ih (Nat.sub (Nat.div k 2) 1))) (fun _ _ => .a (ih (Nat.div k 2))) (Nat.mod k 2)) k
noncomputable def paF (f : Nat) : Nat → Pa := Nat.rec (motive := fun _ => Nat → Pa) (fun _ => .z) (fun _ ih => paS ih) f
noncomputable def paOf (k : Nat) : Pa := paF (Nat.succ k) k

noncomputable def getZ (t : ET) : Option V := Tr.rec (motive := fun _ => Option V) none (fun _ v _ _ _ => v) t
noncomputable def getA (ih : ET → Option V) (t : ET) : Option V := Tr.rec (motive := fun _ => Option V) none (fun l _ _ _ _ => ih l) t
noncomputable def getB (ih : ET → Option V) (t : ET) : Option V := Tr.rec (motive := fun _ => Option V) none (fun _ _ r _ _ => ih r) t
noncomputable def getP (p : Pa) : ET → Option V := Pa.rec (motive := fun _ => ET → Option V) getZ (fun _ ih => getA ih) (fun _ ih => getB ih) p
noncomputable def setZ (x : V) (t : ET) : ET := Tr.rec (motive := fun _ => ET) (.n .e (some x) .e) (fun l _ r _ _ => .n l (some x) r) t
noncomputable def setA (ih : V → ET → ET) (x : V) (t : ET) : ET := Tr.rec (motive := fun _ => ET) (.n (ih x .e) none .e) (fun l v r _ _ => .n (ih x l) v r) t
noncomputable def setB (ih : V → ET → ET) (x : V) (t : ET) : ET := Tr.rec (motive := fun _ => ET) (.n .e none (ih x .e)) (fun l v r _ _ => .n l v (ih x r)) t
noncomputable def setP (p : Pa) : V → ET → ET := Pa.rec (motive := fun _ => V → ET → ET) setZ (fun _ ih => setA ih) (fun _ ih => setB ih) p

/-! ## Heaps -/

noncomputable def getHn (v : Option AObj) (gl gr : Nat → Option AObj) (k : Nat) : Option AObj :=
  Nat.rec (motive := fun _ => Option AObj) v (fun _ _ => Nat.rec (motive := fun _ => Option AObj) (gr (Nat.sub (Nat.div k 2) 1)) (fun _ _ => gl (Nat.div k 2)) (Nat.mod k 2)) k
noncomputable def getH (t : HT) : Nat → Option AObj := Tr.rec (motive := fun _ => Nat → Option AObj) (fun _ => none) (fun _ v _ gl gr => getHn v gl gr) t
noncomputable def setHn (l : HT) (v : Option AObj) (r : HT) (sl sr : Nat → AObj → HT) (k : Nat) (x : AObj) : HT :=
  Nat.rec (motive := fun _ => HT) (.n l (some x) r) (fun _ _ => Nat.rec (motive := fun _ => HT) (.n l v (sr (Nat.sub (Nat.div k 2) 1) x)) (fun _ _ => .n (sl (Nat.div k 2) x) v r) (Nat.mod k 2)) k
noncomputable def setH (t : HT) : Nat → AObj → HT := Tr.rec (motive := fun _ => Nat → AObj → HT) (fun k x => Tr.setF (Nat.succ k) .e k x) (fun l v r sl sr => setHn l v r sl sr) t

/-! ## Lists -/

noncomputable def optK {α : Type} (o : Option α) (k : α → Bool) : Bool := Option.rec (motive := fun _ => Bool) false k o
noncomputable def nthF {α : Type} (cs : List α) : Nat → Option α :=
  List.rec (motive := fun _ => Nat → Option α) (fun _ => none) (fun x _ ih n => Nat.rec (motive := fun _ => Option α) (some x) (fun m _ => ih m) n) cs
noncomputable def dropF (cs : List V) : Nat → List V :=
  List.rec (motive := fun _ => Nat → List V) (fun _ => []) (fun x l ih n => Nat.rec (motive := fun _ => List V) (x :: l) (fun m _ => ih m) n) cs
noncomputable def consO (x : V) (o : Option (List V)) : Option (List V) := Option.rec (motive := fun _ => Option (List V)) none (fun l => some (x :: l)) o
noncomputable def takeF (cs : List V) : Nat → Option (List V) :=
  List.rec (motive := fun _ => Nat → Option (List V)) (fun n => Nat.rec (motive := fun _ => Option (List V)) (some []) (fun _ _ => none) n) (fun x _ ih n => Nat.rec (motive := fun _ => Option (List V)) (some []) (fun m _ => consO x (ih m)) n) cs
/-- n cells from o on. -/
noncomputable def cutF (cs : List V) (o n : Nat) : Option (List V) := takeF (dropF cs o) n
noncomputable def putN (w : V) (cs : List V) : Nat → Option (List V) :=
  List.rec (motive := fun _ => Nat → Option (List V)) (fun _ => none) (fun x l ih n => Nat.rec (motive := fun _ => Option (List V)) (some (w :: l)) (fun m _ => consO x (ih m)) n) cs

/-! ## Instructions -/

inductive PV where
  | t (p : Pa)
  | k (v : V)
  | no
inductive PX where
  | move (x : PV)
  | pick (c a b : PV)
  | f0 (f : Fa)
  | f1 (f : V → Fa) (x : PV)
  | f2 (f : V → V → Fa) (x y : PV)
  | g1 (m : V → M HT V) (x : PV)
  | g2 (m : V → V → M HT V) (x y : PV)
  | gl (m : List V → M HT V) (xs : List PV)
  | parts (m : List (Nat × V) → M HT V) (xs : List (Nat × PV))
  | sl (m : V → Option V → Option V → Option V → M HT V) (x : PV) (lo hi mx : Option PV)
  | call (f : Nat) (xs : List PV)
  | callV (f : PV) (xs : List PV)
  | inv (r : PV) (name : String) (xs : List PV)
  | gen (o : Oper)
inductive PO where
  | p (d : Option Pa) (x : PX)
  | g (j : Pa) (want : Bool) (d : Option Pa) (x : PX)
  | never (d : Option Pa)
  | bad
inductive PC where
  | skip
  | ops (l : List PO)
  | drawn (l : List PO) (deps : List Nat)
  | seq (a b : PC)
  | cond (x : PV) (a b : PC)
  | block (id : Nat) (b : PC)
  | loop (b : PC)
  | exit (id : Nat)
  | ret
  | bad
inductive PR where
  | t (p : Pa)
  | c (r : ResultVar)
structure PF where
  ntmps : Nat
  paths : List Pa
  code : PC
  res : List PR

/-! ## Numbers -/

noncomputable def kmax (k : IntKind) : Nat := IntKind.rec (motive := fun _ => Nat) 127 32767 2147483647 9223372036854775807 255 65535 4294967295 18446744073709551615 k
noncomputable def kneg (k : IntKind) : Nat := IntKind.rec (motive := fun _ => Nat) 128 32768 2147483648 9223372036854775808 0 0 0 0 k
noncomputable def kidx (k : IntKind) : Nat := IntKind.rec (motive := fun _ => Nat) 0 1 2 3 4 5 6 7 k
noncomputable def boolK {α : Type} (f t : α) (b : Bool) : α := Bool.rec (motive := fun _ => α) f t b
noncomputable def wrapF (k : IntKind) (z : Int) : Int :=
  Int.rec (motive := fun _ => Int) (fun n => boolK (k.wrap (.ofNat n)) (.ofNat n) (Nat.ble n (kmax k))) (fun n => boolK (k.wrap (.negSucc n)) (.negSucc n) (Nat.ble (Nat.succ n) (kneg k))) z
/-- Of two that are not negative. -/
noncomputable def natK {α : Type} (x y : Int) (f : Nat → Nat → α) (d : α) : α :=
  Int.rec (motive := fun _ => α) (fun a => Int.rec (motive := fun _ => α) (fun b => f a b) (fun _ => d) y) (fun _ => d) x
noncomputable def addI (x y : Int) : Int := natK x y (fun a b => .ofNat (Nat.add a b)) (x + y)
noncomputable def subI (x y : Int) : Int := natK x y (fun a b => boolK (x - y) (.ofNat (Nat.sub a b)) (Nat.ble b a)) (x - y)
noncomputable def mulI (x y : Int) : Int := natK x y (fun a b => .ofNat (Nat.mul a b)) (x * y)
noncomputable def eqI (x y : Int) : Bool := natK x y (fun a b => Nat.beq a b) (x == y)
noncomputable def ltI (x y : Int) : Bool := natK x y (fun a b => Nat.ble (Nat.succ a) b) (decide (x < y))
noncomputable def leI (x y : Int) : Bool := natK x y (fun a b => Nat.ble a b) (decide (x ≤ y))
noncomputable def notB (b : Bool) : Bool := Bool.rec (motive := fun _ => Bool) true false b

noncomputable def addG (k : IntKind) (x y : Int) : Option V := some (.int k (wrapF k (addI x y)))
noncomputable def subG (k : IntKind) (x y : Int) : Option V := some (.int k (wrapF k (subI x y)))
noncomputable def mulG (k : IntKind) (x y : Int) : Option V := some (.int k (wrapF k (mulI x y)))
noncomputable def eqlG (k : IntKind) (x y : Int) : Option V := some (.bool (eqI x y))
noncomputable def neqG (k : IntKind) (x y : Int) : Option V := some (.bool (notB (eqI x y)))
noncomputable def lssG (k : IntKind) (x y : Int) : Option V := some (.bool (ltI x y))
noncomputable def leqG (k : IntKind) (x y : Int) : Option V := some (.bool (leI x y))
noncomputable def gtrG (k : IntKind) (x y : Int) : Option V := some (.bool (ltI y x))
noncomputable def geqG (k : IntKind) (x y : Int) : Option V := some (.bool (leI y x))
noncomputable def andG (k : IntKind) (x y : Int) : Option V :=
  natK x y (fun a b => boolK (intBin .and k x y) (boolK (intBin .and k x y) (some (.int k (.ofNat (Nat.land a b)))) (Nat.ble b (kmax k))) (Nat.ble a (kmax k))) (intBin .and k x y)
noncomputable def orG (k : IntKind) (x y : Int) : Option V :=
  natK x y (fun a b => boolK (intBin .or k x y) (boolK (intBin .or k x y) (some (.int k (.ofNat (Nat.lor a b)))) (Nat.ble b (kmax k))) (Nat.ble a (kmax k))) (intBin .or k x y)
noncomputable def kbits (k : IntKind) : Nat := IntKind.rec (motive := fun _ => Nat) 8 16 32 64 8 16 32 64 k
noncomputable def minN (a b : Nat) : Nat := boolK b a (Nat.ble a b)
noncomputable def shlG (k : IntKind) (x y : Int) : Option V :=
  natK x y (fun a b => some (.int k (wrapF k (.ofNat (Nat.shiftLeft a (minN b (kbits k))))))) (shiftBin .shl k x y)
noncomputable def shrG (k : IntKind) (x y : Int) : Option V :=
  natK x y (fun a b => some (.int k (.ofNat (Nat.shiftRight a (minN b (kbits k)))))) (shiftBin .shr k x y)

/-! ## What instructions do -/

noncomputable def resK {α : Type} (r : Res HT α) (lg : List Acc) (k : α → HT → Nat → List Acc → Bool) : Bool :=
  Res.rec (motive := fun _ => Bool) (fun a h c l => k a h c (List.reverse l ++ lg)) (fun _ => false) r

/-! Values by their kind: what does not fit is 'false'. -/
abbrev KP := (Nat → Nat → Bool) → Bool
noncomputable def pNo : KP := fun _ => false
noncomputable def pYes (a : Option (Nat × Nat)) : KP := fun k => Option.rec (motive := fun _ => Bool) false (fun p => Prod.rec (motive := fun _ => Bool) k p) a
noncomputable def ptrK (v : V) : KP := V.rec (motive_1 := fun _ => KP) (motive_2 := fun _ => Bool) (fun _ => pNo) (fun _ _ => pNo) (fun _ => pNo) pYes (fun _ _ _ => pNo) (fun _ => pNo) (fun _ _ _ _ _ => pNo) pNo (fun _ _ _ => pNo) pNo (fun _ _ => pNo) (fun _ _ => pNo) (fun _ => pNo) false (fun _ _ _ _ => false) v
abbrev KL := (List V → Bool) → Bool
noncomputable def lNo : KL := fun _ => false
noncomputable def lYes (l : List V) (_ : Bool) : KL := fun k => k l
noncomputable def aggK (v : V) : KL := V.rec (motive_1 := fun _ => KL) (motive_2 := fun _ => Bool) (fun _ => lNo) (fun _ _ => lNo) (fun _ => lNo) (fun _ => lNo) (fun _ _ _ => lNo) (fun _ => lNo) (fun _ _ _ _ _ => lNo) lNo (fun _ _ _ => lNo) lNo lYes (fun _ _ => lNo) (fun _ => lNo) false (fun _ _ _ _ => false) v
noncomputable def tupK (v : V) : KL := V.rec (motive_1 := fun _ => KL) (motive_2 := fun _ => Bool) (fun _ => lNo) (fun _ _ => lNo) (fun _ => lNo) (fun _ => lNo) (fun _ _ _ => lNo) (fun _ => lNo) (fun _ _ _ _ _ => lNo) lNo (fun _ _ _ => lNo) lNo (fun _ _ => lNo) lYes (fun _ => lNo) false (fun _ _ _ _ => false) v
abbrev KI := (IntKind → Int → Bool) → Bool
noncomputable def iNo : KI := fun _ => false
noncomputable def iYes (k : IntKind) (n : Int) : KI := fun f => f k n
noncomputable def intK (v : V) : KI := V.rec (motive_1 := fun _ => KI) (motive_2 := fun _ => Bool) (fun _ => iNo) iYes (fun _ => iNo) (fun _ => iNo) (fun _ _ _ => iNo) (fun _ => iNo) (fun _ _ _ _ _ => iNo) iNo (fun _ _ _ => iNo) iNo (fun _ _ => iNo) (fun _ _ => iNo) (fun _ => iNo) false (fun _ _ _ _ => false) v
abbrev KB := Bool → Bool → Bool
noncomputable def bNo : KB := fun _ _ => false
noncomputable def bYes (b : Bool) : KB := fun f t => Bool.rec (motive := fun _ => Bool) f t b
/-- f, if it is false; t, if it is true. -/
noncomputable def condK (v : V) : KB := V.rec (motive_1 := fun _ => KB) (motive_2 := fun _ => Bool) bYes (fun _ _ => bNo) (fun _ => bNo) (fun _ => bNo) (fun _ _ _ => bNo) (fun _ => bNo) (fun _ _ _ _ _ => bNo) bNo (fun _ _ _ => bNo) bNo (fun _ _ => bNo) (fun _ _ => bNo) (fun _ => bNo) false (fun _ _ _ _ => false) v
abbrev KS := (Option (Nat × Nat) → Nat → Bool) → Bool
noncomputable def sNo : KS := fun _ => false
noncomputable def sYes (a : Option (Nat × Nat)) (n : Nat) (_ : Cap) : KS := fun k => k a n
noncomputable def slK (v : V) : KS := V.rec (motive_1 := fun _ => KS) (motive_2 := fun _ => Bool) (fun _ => sNo) (fun _ _ => sNo) (fun _ => sNo) (fun _ => sNo) sYes (fun _ => sNo) (fun _ _ _ _ _ => sNo) sNo (fun _ _ _ => sNo) sNo (fun _ _ => sNo) (fun _ _ => sNo) (fun _ => sNo) false (fun _ _ _ _ => false) v
noncomputable def oneF (v : V) : Bool := V.rec (motive_1 := fun _ => Bool) (motive_2 := fun _ => Bool) (fun _ => true) (fun _ _ => true) (fun _ => true) (fun _ => true) (fun _ _ _ => true) (fun _ => true) (fun _ _ _ _ _ => true) true (fun _ _ _ => true) true (fun _ _ => false) (fun _ _ => false) (fun _ => true) false (fun _ _ _ _ => false) v
abbrev KC := (Bool → Bool → List V → Bool) → Bool
noncomputable def cNo : KC := fun _ => false
noncomputable def cYes (rw cl : Bool) (cs : List V) : KC := fun k => k rw cl cs
noncomputable def cellsK (o : AObj) : KC := AObj.rec (motive := fun _ => KC) cYes (fun _ _ _ => cNo) (fun _ _ => cNo) (fun _ _ _ _ => cNo) (fun _ _ _ _ _ _ _ => cNo) cNo cNo cNo o

noncomputable def load1F (v : V) : Fa := fun h c lg k => ptrK v fun n o => optK (getH h n) fun ob => cellsK ob fun _ _ cs => optK (nthF cs o) fun w => k w h c (.rd n :: lg)
noncomputable def loadAF (s : Nat) (v : V) : Fa := fun h c lg k => ptrK v fun n o => optK (getH h n) fun ob => cellsK ob fun _ _ cs => optK (cutF cs o s) fun w => k (.agg w) h c (.rd n :: lg)
noncomputable def storeKF (cx : Cx) (t : Nat) (v w : V) : Fa := fun h c lg k => ptrK v fun n o => resK (bnd (storeT cx t n o w) (fun _ => ret (.tuple [])) h c) lg k
noncomputable def store1G (v w : V) : Fa := fun h c lg k => ptrK v fun n o => optK (getH h n) fun ob => cellsK ob fun rw cl cs => boolK false (optK (putN w cs o) fun ds => k (.tuple []) (setH h n (.cells true cl ds)) c (.wr n :: .rd n :: lg)) rw
noncomputable def store1F (cx : Cx) (t : Nat) (v w : V) : Fa := fun h c lg k => boolK (storeKF cx t v w h c lg k) (store1G v w h c lg k) (oneF w)
noncomputable def faddrF (off : Nat) (v : V) : Fa := fun h c lg k => ptrK v fun n o => k (.ptr (some (n, Nat.add o off))) h c lg
noncomputable def fldF (off : Nat) (v : V) : Fa := fun h c lg k => aggK v fun cs => optK (nthF cs off) fun w => k w h c lg
noncomputable def fldAF (off s : Nat) (v : V) : Fa := fun h c lg k => aggK v fun cs => optK (cutF cs off s) fun w => k (.agg w) h c lg
noncomputable def natI (i : Int) (k : Nat → Bool) : Bool := Int.rec (motive := fun _ => Bool) k (fun _ => false) i
noncomputable def iaddrF (s : Nat) (v i : V) : Fa := fun h c lg k => slK v fun a len => pYes a fun n o => intK i fun _ i => natI i fun j => boolK false (k (.ptr (some (n, Nat.add o (Nat.mul j s)))) h c lg) (Nat.ble (Nat.succ j) len)
noncomputable def lenF (v : V) : Fa := fun h c lg k => slK v fun _ n => k (.int .i64 (.ofNat n)) h c lg
noncomputable def intF (g : IntKind → Int → Int → Option V) (a b : V) : Fa := fun h c lg k => intK a fun k1 x => intK b fun k2 y => boolK false (optK (g k1 x y) fun w => k w h c lg) (Nat.beq (kidx k1) (kidx k2))
noncomputable def shF (g : IntKind → Int → Int → Option V) (a b : V) : Fa := fun h c lg k => intK a fun k1 x => intK b fun _ y => optK (g k1 x y) fun w => k w h c lg
noncomputable def convF (kd : IntKind) (v : V) : Fa := fun h c lg k => intK v fun _ n => k (.int kd (wrapF kd n)) h c lg
noncomputable def notF (v : V) : Fa := fun h c lg k => condK v (k (.bool true) h c lg) (k (.bool false) h c lg)
noncomputable def extF (i : Nat) (v : V) : Fa := fun h c lg k => tupK v fun vs => optK (nthF vs i) fun w => k w h c lg
noncomputable def newF (cs : List V) : Fa := fun h c lg k => k (.ptr (some (c, 0))) (setH h c (.cells true true cs)) (Nat.succ c) (.wr c :: lg)
noncomputable def boxF (v : V) : Fa := newF (cellsV v)
noncomputable def nilM (v : V) : M HT V := match v with
  | .ptr (some a) => ret (.ptr (some a))
  | .func (.func f) a b => ret (.func (.func f) a b)
  | .yld n => ret (.yld n)
  | .iface t v => ret (.iface t v)
  | _ => fail "nilCheck"

/-! ## Reading code -/

noncomputable def pvO (o : Option V) : PV := Option.rec (motive := fun _ => PV) .no (fun x => .k x) o
noncomputable def pvT (t : Nat) (_ : Cx) : PV := .t (paOf t)
noncomputable def pvC (v : Value) (_ : Cx) : PV := pvO (toV v)
noncomputable def pvG (g : Nat) (cx : Cx) : PV := boolK .no (.k (.ptr (some (g, 0)))) (Nat.ble (Nat.succ g) cx.ng)
noncomputable def pvFn (f : Nat) (_ : Cx) : PV := .k (.func (.func f) [] [])
noncomputable def pvOf (cx : Cx) (x : Operand) : PV := Operand.rec (motive := fun _ => Cx → PV) pvT pvC pvG pvFn x cx
noncomputable def pvsOf (cx : Cx) (l : List Operand) : List PV := List.rec (motive := fun _ => List PV) [] (fun x _ ih => pvOf cx x :: ih) l
noncomputable def ppsOf (cx : Cx) (l : List (Nat × Operand)) : List (Nat × PV) := List.rec (motive := fun _ => List (Nat × PV)) [] (fun x _ ih => (x.1, pvOf cx x.2) :: ih) l
noncomputable def pvoOf (cx : Cx) (o : Option Operand) : Option PV := Option.rec (motive := fun _ => Option PV) none (fun x => some (pvOf cx x)) o

abbrev XB := Cx → Nat → Bool → PV → PV → PX
noncomputable def xInt (g : IntKind → Int → Int → Option V) : XB := fun _ _ _ x y => .f2 (intF g) x y
noncomputable def xSh (g : IntKind → Int → Int → Option V) : XB := fun _ _ _ x y => .f2 (shF g) x y
noncomputable def xOp (op : BinOp) : XB := fun cx t cst x y => .g2 (binM cx op t cst) x y
noncomputable def binX (op : BinOp) : XB := BinOp.rec (motive := fun _ => XB) (xInt addG) (xInt subG) (xInt mulG) (xOp .quo) (xOp .rem) (xInt andG) (xInt orG) (xOp .xor) (xSh shlG) (xSh shrG) (xOp .andNot) (xInt eqlG) (xInt neqG) (xInt lssG) (xInt leqG) (xInt gtrG) (xInt geqG) op
def isInt : Option TypeDesc → Bool
  | some (.int _) => true
  | _ => false
def isSlice : Option TypeDesc → Bool
  | some (.slice _) => true
  | _ => false
def isLen : Builtin → Bool
  | .len => true
  | _ => false

abbrev XC := Call → Cx → PX
noncomputable def xFun (f : Operand) : XC := Operand.rec (motive := fun _ => Operand → XC) (fun _ f c cx => .callV (pvOf cx f) (pvsOf cx c.args.toList)) (fun _ f c cx => .callV (pvOf cx f) (pvsOf cx c.args.toList)) (fun _ f c cx => .callV (pvOf cx f) (pvsOf cx c.args.toList)) (fun g _ c cx => .call g (pvsOf cx c.args.toList)) f f
noncomputable def xInv (r : Operand) (name : String) : XC := fun c cx => .inv (pvOf cx r) name (pvsOf cx c.args.toList)
noncomputable def xLen (c : Call) (cx : Cx) : PX :=
  match c.argTypes.toList, c.args.toList with
  | t :: _, [x] => boolK (.gl (builtinM cx .len c.argTypes.toList) (pvsOf cx c.args.toList)) (.f1 lenF (pvOf cx x)) (isSlice (cx.desc t))
  | _, _ => .gl (builtinM cx .len c.argTypes.toList) (pvsOf cx c.args.toList)
noncomputable def xBlt (b : Builtin) : XC := fun c cx => boolK (.gl (builtinM cx b c.argTypes.toList) (pvsOf cx c.args.toList)) (xLen c cx) (isLen b)

abbrev XO := Cx → Oper → PX
noncomputable def xGen : XO := fun _ o => .gen o
noncomputable def xMove (x : Operand) : XO := fun cx _ => .move (pvOf cx x)
noncomputable def xPick (c a b : Operand) : XO := fun cx _ => .pick (pvOf cx c) (pvOf cx a) (pvOf cx b)
noncomputable def xAlloc (t : Nat) : XO := fun cx o => match cx.zero t with
  | some z => .f0 (newF (cellsV z))
  | none => .gen o
noncomputable def xBox (_ : Nat) (x : Operand) : XO := fun cx _ => .f1 boxF (pvOf cx x)
noncomputable def xBuild (t : Nat) (ps : Array (Nat × Operand)) : XO := fun cx _ => .parts (fun ps => lift "build" (buildV cx t ps)) (ppsOf cx ps.toList)
noncomputable def xBuildS (t len : Nat) (ps : Array (Nat × Operand)) : XO := fun cx _ => .parts (buildSliceM cx t len) (ppsOf cx ps.toList)
noncomputable def xLoad (t : Nat) (x : Operand) : XO := fun cx o => match cx.desc t with
  | none => .gen o
  | some d => match aggD d, cx.size t with
    | true, some (k + 1) => .f1 (loadAF (k + 1)) (pvOf cx x)
    | true, _ => .gen o
    | false, _ => .f1 load1F (pvOf cx x)
noncomputable def xStore (t : Nat) (x y : Operand) : XO := fun cx _ => match cx.size t with
  | some 1 => .f2 (store1F cx t) (pvOf cx x) (pvOf cx y)
  | _ => .f2 (storeKF cx t) (pvOf cx x) (pvOf cx y)
noncomputable def xNil (x : Operand) : XO := fun cx _ => .g1 nilM (pvOf cx x)
noncomputable def xBin (op : BinOp) (t : Nat) (x y : Operand) (_ : Nat) : XO := fun cx _ =>
  boolK (.g2 (binM cx op t (isConst x || isConst y)) (pvOf cx x) (pvOf cx y)) (binX op cx t (isConst x || isConst y) (pvOf cx x) (pvOf cx y)) (isInt (cx.desc t))
noncomputable def xUn (op : UnOp) (_ : Nat) (x : Operand) : XO := fun cx _ => match op with
  | .not => .f1 notF (pvOf cx x)
  | op => .g1 (fun a => lift "unop" (unV op a)) (pvOf cx x)
noncomputable def xConv (s d : Nat) (x : Operand) : XO := fun cx _ => match cx.desc s, cx.desc d with
  | some (.int _), some (.int k) => .f1 (convF k) (pvOf cx x)
  | _, _ => .g1 (convertM cx s d) (pvOf cx x)
noncomputable def xFaddr (s : Nat) (x : Operand) (f : Nat) : XO := fun cx o => match cx.desc s with
  | some (.struct fields) => match nthF fields.toList f with
    | some d => match cx.size d.type with
      | some (_ + 1) => .f1 (faddrF d.offset) (pvOf cx x)
      | _ => .gen o
    | none => .gen o
  | _ => .gen o
noncomputable def xField (s : Nat) (x : Operand) (f : Nat) : XO := fun cx o => match cx.desc s with
  | some (.struct fields) => match nthF fields.toList f with
    | some d => match cx.desc d.type with
      | some e => match aggD e, cx.size d.type with
        | true, some (k + 1) => .f1 (fldAF d.offset (k + 1)) (pvOf cx x)
        | true, _ => .gen o
        | false, _ => .f1 (fldF d.offset) (pvOf cx x)
      | none => .gen o
    | none => .gen o
  | _ => .gen o
noncomputable def xIaddr (t : Nat) (x i : Operand) : XO := fun cx o => match cx.desc t with
  | some (.slice e) => match cx.size e with
    | some k => .f2 (iaddrF k) (pvOf cx x) (pvOf cx i)
    | none => .gen o
  | _ => .g2 (indexAddrM cx t) (pvOf cx x) (pvOf cx i)
noncomputable def xIndex (t : Nat) (x i : Operand) : XO := fun cx _ => .g2 (fun a b => lift "index" (indexV cx t a b)) (pvOf cx x) (pvOf cx i)
noncomputable def xLook (t : Nat) (x i : Operand) (ok : Bool) : XO := fun cx _ => .g2 (fun a b => lookupM cx t a b ok) (pvOf cx x) (pvOf cx i)
noncomputable def xMake (t : Nat) (l c : Operand) : XO := fun cx _ => .g2 (makeSliceM cx t) (pvOf cx l) (pvOf cx c)
noncomputable def xSlice (t : Nat) (x : Operand) (lo hi mx : Option Operand) : XO := fun cx _ => .sl (sliceM cx t) (pvOf cx x) (pvoOf cx lo) (pvoOf cx hi) (pvoOf cx mx)
noncomputable def xAssert (x : Operand) (_ t : Nat) (ok : Bool) : XO := fun cx _ => .g1 (fun a => assertM cx a t ok) (pvOf cx x)
noncomputable def xExt (x : Operand) (i : Nat) : XO := fun cx _ => .f1 (extF i) (pvOf cx x)
noncomputable def xCall (c : Call) : XO := fun cx _ => Callee.rec (motive := fun _ => XC) xFun xInv xBlt c.callee c cx
/-- What an operation is. -/
noncomputable def compX (cx : Cx) (o : Oper) : PX :=
  Op.rec (motive := fun _ => XO) xMove xMove xPick xAlloc xBox xBuild xBuildS (fun _ _ _ _ => xGen) xLoad xStore (fun _ => xGen) (fun _ => xGen) xNil xBin xUn xConv (fun _ _ => xGen) (fun _ _ => xGen) (fun _ _ _ => xGen) (fun _ _ => xGen) (fun _ _ => xGen) xMake xSlice xFaddr xField xIaddr xIndex xLook (fun _ _ _ _ => xGen) (fun _ _ _ => xGen) (fun _ _ _ _ => xGen) (fun _ _ => xGen) (fun _ _ => xGen) (fun _ => xGen) xAssert xExt xCall (fun _ => xGen) (fun _ => xGen) (fun _ => xGen) (fun _ _ => xGen) (fun _ _ _ => xGen) (fun _ _ => xGen) o.op cx o
/-- Where a result goes; none: nowhere that there is. -/
noncomputable def pdS (d N : Nat) : Option (Option Pa) := boolK none (some (some (paOf d))) (Nat.ble (Nat.succ d) N)
noncomputable def pdOf (N : Nat) (d : Option Tmp) : Option (Option Pa) := Option.rec (motive := fun _ => Option (Option Pa)) (some none) (fun d => pdS d N) d
noncomputable def compG (cx : Cx) (ops : List Oper) (o : Oper) (d : Option Pa) : PO :=
  match o.guard with
  | none => .p d (compX cx o)
  | some (j, want) => match dstOf ops j with
    | none => .never d
    | some g => .g (paOf g) want d (compX cx o)
noncomputable def compO (cx : Cx) (N : Nat) (ops : List Oper) (o : Oper) : PO := Option.rec (motive := fun _ => PO) .bad (compG cx ops o) (pdOf N o.dst)
noncomputable def compL (cx : Cx) (N : Nat) (ops l : List Oper) : List PO := List.rec (motive := fun _ => List PO) [] (fun o _ ih => compO cx N ops o :: ih) l
abbrev XD := Cx → Nat → PC
noncomputable def dReg (_ : Nat) (ops : Array Oper) (draw : Bool) : XD := fun cx N => boolK (.ops (compL cx N ops.toList ops.toList)) (.drawn (compL cx N ops.toList ops.toList) (closure ops.toList [])) draw
noncomputable def dSeq (_ _ : Code) (a b : XD) : XD := fun cx N => .seq (a cx N) (b cx N)
noncomputable def dCond (c : Operand) (_ _ : Code) (a b : XD) : XD := fun cx N => .cond (pvOf cx c) (a cx N) (b cx N)
noncomputable def dBlock (id : Nat) (_ : Code) (b : XD) : XD := fun cx N => .block id (b cx N)
noncomputable def dLoop (_ : Code) (b : XD) : XD := fun cx N => .loop (b cx N)
noncomputable def dBad : XD := fun _ _ => .bad
noncomputable def compC (cx : Cx) (N : Nat) (c : Code) : PC :=
  Code.rec (motive := fun _ => XD) (fun _ _ => .skip) dReg dSeq dCond dBlock dLoop (fun _ _ _ _ _ _ => dBad) (fun id _ _ => .exit id) (fun _ _ => dBad) (fun _ _ _ => .skip) (fun _ => dBad) (fun _ _ => .ret) (fun _ => dBad) c cx N
noncomputable def plainC (c : Code) : Bool :=
  Code.rec (motive := fun _ => Bool) true (fun _ _ _ => true) (fun _ _ a b => boolK false b a) (fun _ _ _ a b => boolK false b a) (fun _ _ b => b) (fun _ b => b) (fun _ _ _ _ _ _ => false) (fun _ => true) (fun _ _ => true) (fun _ => true) (fun _ => true) true (fun _ => true) c
noncomputable def prOf (r : ResultVar) : PR := ResultVar.rec (motive := fun _ => PR) (fun t => .t (paOf t)) (fun a t => .c (.cell a t)) r
noncomputable def prsOf (l : List ResultVar) : List PR := List.rec (motive := fun _ => List PR) [] (fun r _ ih => prOf r :: ih) l
noncomputable def pathsOf (n : Nat) : Nat → List Pa := Nat.rec (motive := fun _ => Nat → List Pa) (fun _ => []) (fun _ ih i => paOf i :: ih (Nat.succ i)) n
noncomputable def compF (cx : Cx) (f : Nat) : Option PF :=
  match cx.fn f with
  | none => none
  | some fn => match fn.body with
    | none => none
    | some c => boolK none (some ⟨fn.ntmps, pathsOf fn.ntmps 0, compC cx fn.ntmps c, prsOf fn.results.toList⟩) (plainC c)

/-! ## Running -/

noncomputable def opdK (x : PV) (u : ET) (k : V → Bool) : Bool :=
  PV.rec (motive := fun _ => Bool) (fun p => optK (getP p u) k) (fun v => k v) false x
noncomputable def opdsK (l : List PV) : ET → (List V → Bool) → Bool :=
  List.rec (motive := fun _ => ET → (List V → Bool) → Bool) (fun _ k => k []) (fun x _ ih u k => opdK x u fun v => ih u fun vs => k (v :: vs)) l
noncomputable def prtK (x : Nat × PV) (ih : ET → (List (Nat × V) → Bool) → Bool) (u : ET) (k : List (Nat × V) → Bool) : Bool :=
  match x with
  | (i, x) => opdK x u fun v => ih u fun vs => k ((i, v) :: vs)
noncomputable def prtsK (l : List (Nat × PV)) : ET → (List (Nat × V) → Bool) → Bool :=
  List.rec (motive := fun _ => ET → (List (Nat × V) → Bool) → Bool) (fun _ k => k []) (fun x _ ih => prtK x ih) l
noncomputable def opoK (x : Option PV) (u : ET) (k : Option V → Bool) : Bool :=
  Option.rec (motive := fun _ => Bool) (k none) (fun x => opdK x u fun v => k (some v)) x

structure Env where
  cx : Cx
  call : Tgt → List V → Fa
  slow : Tgt → List V → M HT V

noncomputable def callK (N : Env) (xs : List V) (f : V) : Fa := fun h c lg k =>
  match f with
  | .func (.func f) first captured => N.call (.fn f) (first ++ xs ++ captured) h c lg k
  | .yld n => N.call (.yl n) xs h c lg k
  | _ => false
noncomputable def invK (N : Env) (name : String) (xs : List V) (r : V) : Fa := fun h c lg k =>
  match r with
  | .iface t v => optK (methodV N.cx t name) fun f => N.call (.fn f) (v :: xs) h c lg k
  | _ => false
abbrev XR := Env → ET → Fa
noncomputable def rMove (x : PV) : XR := fun _ u h c lg k => opdK x u fun v => k v h c lg
noncomputable def rPick (x a b : PV) : XR := fun _ u h c lg k => opdK x u fun v => condK v (opdK b u fun v => k v h c lg) (opdK a u fun v => k v h c lg)
noncomputable def r0 (f : Fa) : XR := fun _ _ h c lg k => f h c lg k
noncomputable def r1 (f : V → Fa) (x : PV) : XR := fun _ u h c lg k => opdK x u fun v => f v h c lg k
noncomputable def r2 (f : V → V → Fa) (x y : PV) : XR := fun _ u h c lg k => opdK x u fun v => opdK y u fun w => f v w h c lg k
noncomputable def rg1 (m : V → M HT V) (x : PV) : XR := fun _ u h c lg k => opdK x u fun v => resK (m v h c) lg k
noncomputable def rg2 (m : V → V → M HT V) (x y : PV) : XR := fun _ u h c lg k => opdK x u fun v => opdK y u fun w => resK (m v w h c) lg k
noncomputable def rgl (m : List V → M HT V) (xs : List PV) : XR := fun _ u h c lg k => opdsK xs u fun vs => resK (m vs h c) lg k
noncomputable def rParts (m : List (Nat × V) → M HT V) (xs : List (Nat × PV)) : XR := fun _ u h c lg k => prtsK xs u fun vs => resK (m vs h c) lg k
noncomputable def rSl (m : V → Option V → Option V → Option V → M HT V) (x : PV) (lo hi mx : Option PV) : XR := fun _ u h c lg k => opdK x u fun v => opoK lo u fun lo => opoK hi u fun hi => opoK mx u fun mx => resK (m v lo hi mx h c) lg k
noncomputable def rCall (f : Nat) (xs : List PV) : XR := fun N u h c lg k => opdsK xs u fun vs => N.call (.fn f) vs h c lg k
noncomputable def rCallV (f : PV) (xs : List PV) : XR := fun N u h c lg k => opdsK xs u fun vs => opdK f u fun f => callK N vs f h c lg k
noncomputable def rInv (r : PV) (name : String) (xs : List PV) : XR := fun N u h c lg k => opdsK xs u fun vs => opdK r u fun r => invK N name vs r h c lg k
noncomputable def rGen (o : Oper) : XR := fun N u h c lg k => resK (opM N.cx N.slow u o h c) lg k
noncomputable def pxF (N : Env) (x : PX) (u : ET) : Fa := PX.rec (motive := fun _ => XR) rMove rPick r0 r1 r2 rg1 rg2 rgl rParts rSl rCall rCallV rInv rGen x N u
noncomputable def putX (u : ET) (d : Option Pa) (v : V) : ET := Option.rec (motive := fun _ => ET) u (fun p => setP p v u) d
noncomputable def guardK (N : Env) (want : Bool) (d : Option Pa) (x : PX) (u : ET) (h : HT) (c : Nat) (lg : List Acc) (k : KE) (g : V) : Bool :=
  match g with
  | .bool b => boolK (k (putX u d undefV) h c lg) (pxF N x u h c lg fun v h c lg => k (putX u d v) h c lg) (b == want)
  | _ => k (putX u d undefV) h c lg
abbrev XP := Env → ET → HT → Nat → List Acc → KE → Bool
noncomputable def pP (d : Option Pa) (x : PX) : XP := fun N u h c lg k => pxF N x u h c lg fun v h c lg => k (putX u d v) h c lg
noncomputable def pG (j : Pa) (want : Bool) (d : Option Pa) (x : PX) : XP := fun N u h c lg k => optK (getP j u) (guardK N want d x u h c lg k)
noncomputable def pNv (d : Option Pa) : XP := fun _ u h c lg k => k (putX u d undefV) h c lg
noncomputable def pBad : XP := fun _ _ _ _ _ _ => false
noncomputable def poF (N : Env) (o : PO) (u : ET) (h : HT) (c : Nat) (lg : List Acc) (k : KE) : Bool := PO.rec (motive := fun _ => XP) pP pG pNv pBad o N u h c lg k
noncomputable def opsN : XP := fun _ u h c lg k => k u h c lg
noncomputable def opsC (o : PO) (_ : List PO) (ih : XP) : XP := fun N u h c lg k => poF N o u h c lg fun u h c lg => ih N u h c lg k
noncomputable def opsF (N : Env) (l : List PO) (u : ET) (h : HT) (c : Nat) (lg : List Acc) (k : KE) : Bool := List.rec (motive := fun _ => XP) opsN opsC l N u h c lg k

/-- As logsOk. -/
def logsF (deps : List Nat) (logs : List (List Acc)) : Bool := !anyWrite logs || allApart 0 (deps.zip logs)
abbrev XQ := Env → List Nat → List (List Acc) → ET → HT → Nat → List Acc → KE → Bool
noncomputable def drN : XQ := fun _ deps al u h c lg k => boolK false (k u h c lg) (logsF deps al.reverse)
noncomputable def drC (o : PO) (_ : List PO) (ih : XQ) : XQ := fun N deps al u h c lg k => poF N o u h c [] fun u h c r => ih N deps (r :: al) u h c (r ++ lg) k
noncomputable def drF (N : Env) (deps : List Nat) (l : List PO) (al : List (List Acc)) (u : ET) (h : HT) (c : Nat) (lg : List Acc) (k : KE) : Bool := List.rec (motive := fun _ => XQ) drN drC l N deps al u h c lg k

abbrev KX := Ex → ET → HT → Nat → List Acc → Bool
abbrev CF := Env → Nat → ET → HT → Nat → List Acc → KE → KX → Bool
noncomputable def exE (id : Nat) (i : Nat) (kn kx : Bool) : Bool := boolK kx kn (Nat.beq i id)
noncomputable def exitK (id : Nat) (kn kx : Bool) (x : Ex) : Bool := Ex.rec (motive := fun _ => Bool) kx (fun i => exE id i kn kx) kx x
noncomputable def cSkip : CF := fun _ _ u h c lg kn _ => kn u h c lg
noncomputable def cOps (l : List PO) : CF := fun N _ u h c lg kn _ => opsF N l u h c lg kn
noncomputable def cDr (l : List PO) (deps : List Nat) : CF := fun N _ u h c lg kn _ => drF N deps l [] u h c lg kn
noncomputable def cSeq (_ _ : PC) (a b : CF) : CF := fun N n u h c lg kn kx => a N n u h c lg (fun u h c lg => b N n u h c lg kn kx) kx
noncomputable def cCond (x : PV) (_ _ : PC) (a b : CF) : CF := fun N n u h c lg kn kx => opdK x u fun v => condK v (b N n u h c lg kn kx) (a N n u h c lg kn kx)
noncomputable def cBlock (id : Nat) (_ : PC) (b : CF) : CF := fun N n u h c lg kn kx => b N n u h c lg kn fun x u h c lg => exitK id (kn u h c lg) (kx x u h c lg) x
noncomputable def loopN (b : CF) (N : Env) (n : Nat) (kx : KX) (ih : KE) : KE := fun u h c lg => b N n u h c lg ih kx
noncomputable def loopZ : KE := fun _ _ _ _ => false
noncomputable def cLoop (_ : PC) (b : CF) : CF := fun N n u h c lg _ kx => Nat.rec (motive := fun _ => KE) loopZ (fun _ ih => loopN b N n kx ih) n u h c lg
noncomputable def cExit (id : Nat) : CF := fun _ _ u h c lg _ kx => kx (.exit id) u h c lg
noncomputable def cRet : CF := fun _ _ u h c lg _ kx => kx .ret u h c lg
noncomputable def cBad : CF := fun _ _ _ _ _ _ _ _ => false
noncomputable def codeF (N : Env) (n : Nat) (p : PC) (u : ET) (h : HT) (c : Nat) (lg : List Acc) (kn : KE) (kx : KX) : Bool :=
  PC.rec (motive := fun _ => CF) cSkip cOps cDr cSeq cCond cBlock cLoop cExit cRet cBad p N n u h c lg kn kx

noncomputable def initS (v : V) (ih : List Pa → ET → ET) (ps : List Pa) (u : ET) : ET := List.rec (motive := fun _ => ET) u (fun p ps _ => ih ps (setP p v u)) ps
noncomputable def initF (xs : List V) : List Pa → ET → ET := List.rec (motive := fun _ => List Pa → ET → ET) (fun _ u => u) (fun v _ ih => initS v ih) xs
noncomputable def resC (cx : Cx) (r : PR) (u : ET) : Fa := fun h c lg k =>
  match r with
  | .t p => optK (getP p u) fun v => k v h c lg
  | .c (.cell a t) => resK (bnd (lift "result" (MapI.get u a)) (fun x => bnd (asP x) fun (n, o) => loadT cx t n o) h c) lg k
  | .c (.tmp t) => optK (getP (paOf t) u) fun v => k v h c lg
noncomputable def resF (cx : Cx) (l : List PR) : ET → HT → Nat → List Acc → (List V → HT → Nat → List Acc → Bool) → Bool :=
  List.rec (motive := fun _ => ET → HT → Nat → List Acc → (List V → HT → Nat → List Acc → Bool) → Bool) (fun _ h c lg k => k [] h c lg)
    (fun r _ ih u h c lg k => resC cx r u h c lg fun v h c lg => ih u h c lg fun vs h c lg => k (v :: vs) h c lg) l
noncomputable def endK (cx : Cx) (rs : List PR) (k : KV) (u : ET) (h : HT) (c : Nat) (lg : List Acc) : Bool := resF cx rs u h c lg fun vs h c lg => k (tup vs) h c lg
noncomputable def outK (cx : Cx) (rs : List PR) (k : KV) (x : Ex) (u : ET) (h : HT) (c : Nat) (lg : List Acc) : Bool :=
  Ex.rec (motive := fun _ => Bool) (endK cx rs k u h c lg) (fun _ => false) (endK cx rs k u h c lg) x
noncomputable def pfF (N : Env) (n : Nat) (xs : List V) (p : PF) : Fa := fun h c lg k =>
  match p with
  | ⟨N', ps, code, rs⟩ => boolK false (codeF N n code (initF xs ps .e) h c lg (endK N.cx rs k) (outK N.cx rs k)) (Nat.ble xs.length N')
noncomputable def fnB (N : Env) (n : Nat) (f : Nat) (xs : List V) : Fa := fun h c lg k =>
  match compF N.cx f with
  | some p => pfF N n xs p h c lg k
  | none => resK (bodyM ET N.cx N.slow n f xs h c) lg k
noncomputable def fnF (prim : Nat → Option ((Tgt → List V → M HT V) → List V → M HT V)) (N : Env) (n : Nat) (f : Nat) (xs : List V) : Fa := fun h c lg k =>
  match prim f with
  | some m => resK (m N.slow xs h c) lg k
  | none => fnB N n f xs h c lg k
noncomputable def tgtF (prim : Nat → Option ((Tgt → List V → M HT V) → List V → M HT V)) (N : Env) (n : Nat) (t : Tgt) (xs : List V) : Fa := fun h c lg k =>
  match t with
  | .fn f => fnF prim N n f xs h c lg k
  | .yl l => resK (roundM ET N.cx N.slow n l xs h c) lg k
noncomputable def callF (cx : Cx) (prim : Nat → Option ((Tgt → List V → M HT V) → List V → M HT V)) (n : Nat) : Tgt → List V → Fa :=
  Nat.rec (motive := fun _ => Tgt → List V → Fa) (fun _ _ _ _ _ _ => false) (fun n ih t xs => tgtF prim ⟨cx, ih, evFn ET cx prim n⟩ n t xs) n
noncomputable def okK (v : V) (_ : HT) (_ : Nat) (_ : List Acc) : Bool := condK v false true
/-- Does a closed function answer 'true'? -/
noncomputable def fastOk (cx : Cx) (prim : Nat → Option ((Tgt → List V → M HT V) → List V → M HT V)) (n f : Nat) (xs : List V) : Bool := callF cx prim n (.fn f) xs .e 0 [] okK

/-- Rows of a list, by sixteens. -/
noncomputable def dropA {α : Type} (cs : List α) : Nat → List α :=
  List.rec (motive := fun _ => Nat → List α) (fun _ => []) (fun x l ih n => Nat.rec (motive := fun _ => List α) (x :: l) (fun m _ => ih m) n) cs
noncomputable def sufF {α : Type} (n : Nat) : List α → List (List α) := Nat.rec (motive := fun _ => List α → List (List α)) (fun _ => []) (fun _ ih l => l :: ih (dropA l 16)) n
noncomputable def nth2 {α : Type} (l : List α) (i : Nat) : Option α := Option.rec (motive := fun _ => Option α) none (fun s => nthF s (Nat.mod i 16)) (nthF (sufF (List.length l) l) (Nat.div i 16))
noncomputable def tyF (P : Program) (t : Nat) (o : Option TypeInfo) : Option TypeInfo := Option.rec (motive := fun _ => Option TypeInfo) (P.info? t) (fun i => some i) o
/-- As cxOf: rows are looked up in lists, by sixteens. -/
noncomputable def cxF (P : Program) : Cx := { fn := fun f => nth2 P.funcs.toList f, ty := fun t => tyF P t (nth2 P.types.toList t), ng := 0, eqOk := fun t => !P.stoodInHeld t && !P.eqGuardType P.depth t }
end Go.Ab
