/- A calculus over the abstract evaluator: what a run with enough fuel comes to. Frames and heaps are functions. -/
import Derived.Test.YtcenbfjhhaialaaAc1
set_option linter.unusedVariables false
set_option linter.unusedSectionVars false
set_option linter.unusedSimpArgs false
set_option linter.unnecessarySimpa false
namespace Go.Ab

/-- A finite map as a function. -/
abbrev FM (α : Type) : Type := Nat → Option α
instance {α : Type} : MapI (FM α) α where
  emp := fun _ => none
  get s n := s n
  set s n x := fun m => bif Nat.beq m n then some x else s m
  get_emp _ := rfl
  get_same s n x := by show (bif Nat.beq n n then some x else s n) = some x; rw [Nat.beq_refl]; rfl
  get_ne s n m x h := by
    show (bif Nat.beq m n then some x else s m) = s m
    have : Nat.beq m n = false := by rw [Bool.eq_false_iff]; intro e; exact h (Nat.eq_of_beq_eq_true e).symm
    rw [this]; rfl

/-- What is known of a frame may be written on top of it. -/
theorem FM.add {α : Type} {e : FM α} {k : Nat} {v : α} (h : e k = some v) : MapI.set e k v = e := by
  funext m
  show (bif Nat.beq m k then some v else e m) = e m
  cases hb : Nat.beq m k with
  | false => rfl
  | true => rw [Nat.eq_of_beq_eq_true hb, h]; rfl

section
variable {H : Type} {α β : Type}

/-- With enough fuel the run answers, and what it comes to meets Q (the value, the heap, the next name, what was accessed). -/
def WpX (m : Nat → M H α) (h : H) (c : Nat) (Q : α → H → Nat → List Acc → Prop) : Prop :=
  ∃ a h' c' l, Q a h' c' l ∧ ∃ k, ∀ n, k ≤ n → m n h c = .ok a h' c' l

theorem WpX.pure {m : Nat → M H α} {h h' : H} {c c' : Nat} {l : List Acc} {a : α} {Q : α → H → Nat → List Acc → Prop} (hm : ∀ n, m n h c = .ok a h' c' l) (hQ : Q a h' c' l) : WpX m h c Q :=
  ⟨a, h', c', l, hQ, 0, fun n _ => hm n⟩
theorem WpX.mono {m : Nat → M H α} {h : H} {c : Nat} {Q R : α → H → Nat → List Acc → Prop} (w : WpX m h c Q) (hq : ∀ a h' c' l, Q a h' c' l → R a h' c' l) : WpX m h c R := by
  obtain ⟨a, h', c', l, q, k, hk⟩ := w
  exact ⟨a, h', c', l, hq _ _ _ _ q, k, hk⟩
theorem bnd_eq {m : M H α} {f : α → M H β} {h h' h'' : H} {c c' c'' : Nat} {a : α} {b : β} {l l' : List Acc} (x : m h c = .ok a h' c' l) (y : f a h' c' = .ok b h'' c'' l') : Ab.bnd m f h c = .ok b h'' c'' (l ++ l') := by
  unfold Ab.bnd
  simp only [x, y]
theorem nolog {L : Acc → Prop} : ∀ x ∈ ([] : List Acc), L x := fun x hx => by cases hx
theorem WpX.bnd {m : Nat → M H α} {f : α → Nat → M H β} {h : H} {c : Nat} {Q : β → H → Nat → List Acc → Prop}
    (w : WpX m h c fun a h' c' l => WpX (f a) h' c' fun b h'' c'' l' => Q b h'' c'' (l ++ l')) : WpX (fun n => bnd (m n) fun a => f a n) h c Q := by
  obtain ⟨a, h', c', l, ⟨b, h'', c'', l', q, k', hk'⟩, k, hk⟩ := w
  refine ⟨b, h'', c'', l ++ l', q, k + k', fun n hn => bnd_eq (hk n (by omega)) (hk' n (by omega))⟩
theorem WpX.congr {m m' : Nat → M H α} {h : H} {c : Nat} {Q : α → H → Nat → List Acc → Prop} (w : WpX m' h c Q) (e : ∀ n, m n = m' n) : WpX m h c Q := by
  have : m = m' := funext e
  rw [this]; exact w
theorem WpX.conj {m : Nat → M H α} {h : H} {c : Nat} {Q : α → H → Nat → List Acc → Prop} {P : Prop} (w : WpX m h c Q) (hp : P) : WpX m h c fun a h' c' l => P ∧ Q a h' c' l :=
  w.mono fun _ _ _ _ q => ⟨hp, q⟩
end

section
variable {H E : Type} [MapI H AObj] [MapI E V] {cx : Cx} {prim : Nat → Option ((Tgt → List V → M H V) → List V → M H V)}
variable {h : H} {c : Nat} {L : Acc → Prop}

structure WpC (E : Type) [MapI E V] (cx : Cx) (prim : Nat → Option ((Tgt → List V → M H V) → List V → M H V)) (L : Acc → Prop) (N : Nat) (cd : Code) (e : E) (h : H) (c : Nat) (Q : Ex → E → H → Nat → Prop) : Prop where
  w : WpX (fun n => evCode cx (evFn E cx prim n) false N n cd [] e) h c fun r h' c' l => (∀ x ∈ l, L x) ∧ r.2.2 = [] ∧ Q r.1 r.2.1 h' c'
structure WpO (E : Type) [MapI E V] (cx : Cx) (prim : Nat → Option ((Tgt → List V → M H V) → List V → M H V)) (L : Acc → Prop) (N : Nat) (ops l : List Oper) (e : E) (h : H) (c : Nat) (Q : E → H → Nat → Prop) : Prop where
  w : WpX (fun n => evOps cx (evFn E cx prim n) N ops l e) h c fun e' h' c' l => (∀ x ∈ l, L x) ∧ Q e' h' c'
/-- A drawn region: with what each operation accessed. -/
structure WpL (E : Type) [MapI E V] (cx : Cx) (prim : Nat → Option ((Tgt → List V → M H V) → List V → M H V)) (L : Acc → Prop) (N : Nat) (ops l : List Oper) (al : List (List Acc)) (e : E) (h : H) (c : Nat) (Q : E → H → Nat → Prop) : Prop where
  w : WpX (fun n => evLog cx (evFn E cx prim n) N ops l e) h c fun r h' c' l => (∀ x ∈ l, L x) ∧ logsOk ops (al ++ r.2) = true ∧ Q r.1 h' c'
structure WpLoop (E : Type) [MapI E V] (cx : Cx) (prim : Nat → Option ((Tgt → List V → M H V) → List V → M H V)) (L : Acc → Prop) (N : Nat) (b : Code) (e : E) (h : H) (c : Nat) (Q : Ex → E → H → Nat → Prop) : Prop where
  w : ∃ r h' c' l, ((∀ x ∈ l, L x) ∧ r.2.2 = [] ∧ Q r.1 r.2.1 h' c') ∧ ∃ k, ∀ n j, k ≤ n → k ≤ j → loopM (evCode cx (evFn E cx prim n) false N n b) j [] e h c = .ok r h' c' l

theorem forall_app {a b : List Acc} (x : ∀ z ∈ a, L z) (y : ∀ z ∈ b, L z) : ∀ z ∈ a ++ b, L z := fun z hz => by
  rcases List.mem_append.1 hz with h | h
  · exact x z h
  · exact y z h

variable {N : Nat} {e : E} {Q : Ex → E → H → Nat → Prop} {R : E → H → Nat → Prop}

theorem WpC.mono {cd : Code} {Q' : Ex → E → H → Nat → Prop} (w : WpC E cx prim L N cd e h c Q) (hq : ∀ x e h c, Q x e h c → Q' x e h c) : WpC E cx prim L N cd e h c Q' :=
  ⟨w.w.mono fun _ _ _ _ ⟨a, b, q⟩ => ⟨a, b, hq _ _ _ _ q⟩⟩
theorem WpC.skip (q : Q .normal e h c) : WpC E cx prim L N .skip e h c Q := ⟨WpX.pure (fun n => rfl) ⟨nolog, rfl, q⟩⟩
theorem WpC.label {i : Nat} (q : Q .normal e h c) : WpC E cx prim L N (.label i) e h c Q := ⟨WpX.pure (fun n => rfl) ⟨nolog, rfl, q⟩⟩
theorem WpC.exit {i : Nat} (q : Q (.exit i) e h c) : WpC E cx prim L N (.exit i) e h c Q := ⟨WpX.pure (fun n => rfl) ⟨nolog, rfl, q⟩⟩
theorem WpC.ret (q : Q .ret e h c) : WpC E cx prim L N .ret e h c Q := ⟨WpX.pure (fun n => rfl) ⟨nolog, rfl, q⟩⟩
def seqQ (Q : Ex → E → H → Nat → Prop) (K : E → H → Nat → Prop) : Ex → E → H → Nat → Prop
  | .normal, e, h, c => K e h c
  | x, e, h, c => Q x e h c
def blkQ (i : Nat) (Q : Ex → E → H → Nat → Prop) : Ex → E → H → Nat → Prop
  | .exit j, e, h, c => bif Nat.beq j i then Q .normal e h c else Q (.exit j) e h c
  | x, e, h, c => Q x e h c

theorem seqQ_normal {K : E → H → Nat → Prop} (q : K e h c) : seqQ Q K .normal e h c := q
theorem seqQ_ret {K : E → H → Nat → Prop} (q : Q .ret e h c) : seqQ Q K .ret e h c := q
theorem seqQ_exit {K : E → H → Nat → Prop} {i : Nat} (q : Q (.exit i) e h c) : seqQ Q K (.exit i) e h c := q
theorem blkQ_normal {i : Nat} (q : Q .normal e h c) : blkQ i Q .normal e h c := q
theorem blkQ_ret {i : Nat} (q : Q .ret e h c) : blkQ i Q .ret e h c := q
theorem blkQ_out {i j : Nat} (hb : Nat.beq j i = true) (q : Q .normal e h c) : blkQ i Q (.exit j) e h c := by simp only [blkQ, hb]; exact q
theorem blkQ_by {i j : Nat} (hb : Nat.beq j i = false) (q : Q (.exit j) e h c) : blkQ i Q (.exit j) e h c := by simp only [blkQ, hb]; exact q
theorem WpC.seq {a b : Code} (w : WpC E cx prim L N a e h c (seqQ Q fun e' h' c' => WpC E cx prim L N b e' h' c' Q)) : WpC E cx prim L N (.seq a b) e h c Q := by
  refine ⟨?_⟩
  have w := w.w
  refine WpX.congr (m' := fun n => bnd (evCode cx (evFn E cx prim n) false N n a [] e) fun r => match r with
    | (.normal, e, ms) => evCode cx (evFn E cx prim n) false N n b ms e
    | r => Ab.ret r) (WpX.bnd (f := fun (r : Out E) n => match r with
    | (.normal, e, ms) => evCode cx (evFn E cx prim n) false N n b ms e
    | r => Ab.ret r) (w.mono fun r h' c' l ⟨hl, hms, q⟩ => ?_)) fun n => by rw [evCode]; rfl
  obtain ⟨x, e', ms⟩ := r
  simp only at hms
  subst hms
  cases x with
  | normal => exact WpX.mono (show WpC _ _ _ _ _ _ _ _ _ _ from q).w fun r h'' c'' l' ⟨hl', hm', q'⟩ => ⟨forall_app hl hl', hm', q'⟩
  | exit i => exact WpX.pure (fun n => rfl) ⟨forall_app hl nolog, rfl, q⟩
  | ret => exact WpX.pure (fun n => rfl) ⟨forall_app hl nolog, rfl, q⟩
/-- Behind the first part stands an assertion of one's own. -/
theorem WpC.seqI {a b : Code} (M : E → H → Nat → Prop) (w : WpC E cx prim L N a e h c (seqQ Q M)) (k : ∀ e h c, M e h c → WpC E cx prim L N b e h c Q) : WpC E cx prim L N (.seq a b) e h c Q :=
  WpC.seq (w.mono fun x e' h' c' q => by
    cases x with
    | normal => exact k _ _ _ q
    | exit i => exact q
    | ret => exact q)
theorem WpC.block {i : Nat} {b : Code} (w : WpC E cx prim L N b e h c (blkQ i Q)) : WpC E cx prim L N (.block i b) e h c Q := by
  refine ⟨?_⟩
  have w := w.w
  refine WpX.congr (m' := fun n => bnd (evCode cx (evFn E cx prim n) false N n b [] e) fun r => match r with
    | (.exit j, e, ms) => if j = i then Ab.ret (.normal, e, ms) else Ab.ret (.exit j, e, ms)
    | r => Ab.ret r) (WpX.bnd (f := fun (r : Out E) n => match r with
    | (.exit j, e, ms) => if j = i then Ab.ret (.normal, e, ms) else Ab.ret (.exit j, e, ms)
    | r => Ab.ret r) (w.mono fun r h' c' l ⟨hl, hms, q⟩ => ?_)) fun n => by rw [evCode]; rfl
  obtain ⟨x, e', ms⟩ := r
  simp only at hms
  subst hms
  cases x with
  | normal => exact WpX.pure (fun n => rfl) ⟨forall_app hl nolog, rfl, q⟩
  | ret => exact WpX.pure (fun n => rfl) ⟨forall_app hl nolog, rfl, q⟩
  | exit j =>
    simp only [blkQ] at q
    by_cases hj : j = i
    · subst hj
      rw [Nat.beq_refl] at q
      have q : Q .normal e' h' c' := q
      exact WpX.pure (fun n => by simp only [if_true]; rfl) ⟨forall_app hl nolog, rfl, q⟩
    · have hb : Nat.beq j i = false := by rw [Bool.eq_false_iff]; intro e; exact hj (Nat.eq_of_beq_eq_true e)
      rw [hb] at q
      have q : Q (.exit j) e' h' c' := q
      exact WpX.pure (fun n => by simp only [if_neg hj]; rfl) ⟨forall_app hl nolog, rfl, q⟩
theorem WpC.cond {x : Operand} {a d : Code} {b : Bool} (hx : ev1 cx e x = some (.bool b)) (ha : b = true → WpC E cx prim L N a e h c Q) (hd : b = false → WpC E cx prim L N d e h c Q) :
    WpC E cx prim L N (.cond x a d) e h c Q := by
  have key : ∀ n, evCode cx (evFn E cx prim n) false N n (.cond x a d) [] e = (if b = true then evCode cx (evFn E cx prim n) false N n a [] e else evCode cx (evFn E cx prim n) false N n d [] e : M H (Out E)) := fun n => by
    funext h c
    rw [evCode, hx]
    cases b <;> simp [lift, bnd, Ab.ret] <;> split <;> simp_all
  cases b with
  | true => exact ⟨WpX.congr (ha rfl).w fun n => by rw [key]; rfl⟩
  | false => exact ⟨WpX.congr (hd rfl).w fun n => by rw [key]; rfl⟩
theorem WpC.region {k : Nat} {ops : Array Oper} (w : WpO E cx prim L N ops.toList ops.toList e h c (Q .normal)) : WpC E cx prim L N (.region k ops false) e h c Q := by
  refine ⟨?_⟩
  have w := w.w
  refine WpX.congr (m' := fun n => bnd (evOps cx (evFn E cx prim n) N ops.toList ops.toList e) fun e => Ab.ret (.normal, e, [])) (WpX.bnd (f := fun (r : E) n => (Ab.ret (.normal, r, []) : M H (Out E))) (w.mono fun r h' c' l ⟨hl, q⟩ => ?_))
    fun n => by rw [evCode]; rfl
  exact WpX.pure (fun n => rfl) ⟨forall_app hl nolog, rfl, q⟩
theorem WpC.drawn {k : Nat} {ops : Array Oper} (w : WpL E cx prim L N ops.toList ops.toList [] e h c (Q .normal)) : WpC E cx prim L N (.region k ops true) e h c Q := by
  refine ⟨?_⟩
  have w := w.w
  obtain ⟨⟨e', as⟩, h', c', l, ⟨hl, hlog, q⟩, k', hk⟩ := w
  refine ⟨(.normal, e', []), h', c', (l ++ []) ++ [], ⟨fun x hx => hl x (by simpa using hx), rfl, q⟩, k', fun n hn => ?_⟩
  have hlog' : logsOk ops.toList as = true := by simpa using hlog
  show evCode cx (evFn E cx prim n) false N n (.region k ops true) [] e h c = _
  rw [evCode]
  refine bnd_eq (c' := c') (h' := h') (a := e') ?_ rfl
  show evDrawn cx (evFn E cx prim n) N ops.toList e h c = _
  exact bnd_eq (hk n hn) (by simp only [hlog', if_true]; rfl)
theorem WpO.nil {ops : List Oper} (q : R e h c) : WpO E cx prim L N ops [] e h c R := ⟨WpX.pure (fun n => rfl) ⟨nolog, q⟩⟩
def putd (e : E) (d : Option Tmp) (v : V) : E :=
  match d with
  | none => e
  | some d => MapI.set e d v
def dstOk (N : Nat) (d : Option Tmp) : Bool :=
  match d with
  | none => true
  | some d => Nat.blt d N
theorem putE_eq {d : Option Tmp} {v : V} (hd : dstOk N d = true) : (putE N e d v : M H E) = Ab.ret (putd e d v) := by
  cases d with
  | none => rfl
  | some d =>
    have : d < N := by have : Nat.blt d N = true := hd; exact Nat.le_of_ble_eq_true this
    simp only [putE, if_pos this, putd]
theorem WpO.cons {ops l : List Oper} {o : Oper} (hw : wantedV ops e o = some true) (hd : dstOk N o.dst = true)
    (w : WpX (fun n => opM cx (evFn E cx prim n) e o) h c fun v h' c' al => (∀ x ∈ al, L x) ∧ WpO E cx prim L N ops l (putd e o.dst v) h' c' R) : WpO E cx prim L N ops (o :: l) e h c R := by
  refine ⟨?_⟩
  refine WpX.congr (m' := fun n => bnd (bnd (opM cx (evFn E cx prim n) e o) fun v => putE N e o.dst v) fun e => evOps cx (evFn E cx prim n) N ops l e)
    (WpX.bnd (f := fun (r : E) n => evOps cx (evFn E cx prim n) N ops l r) (WpX.bnd (f := fun v n => (putE N e o.dst v : M H E)) (w.mono fun v h' c' al ⟨hl, w'⟩ => ?_)))
    fun n => by rw [evOps, stepOp, hw]
  refine WpX.pure (fun n => by rw [putE_eq hd]; rfl) ?_
  exact w'.w.mono fun r h'' c'' l' ⟨hl', q⟩ => ⟨forall_app (forall_app hl nolog) hl', q⟩
theorem WpO.skip {ops l : List Oper} {o : Oper} (hw : wantedV ops e o = some false) (hd : dstOk N o.dst = true) (w : WpO E cx prim L N ops l (putd e o.dst undefV) h c R) : WpO E cx prim L N ops (o :: l) e h c R := by
  refine ⟨?_⟩
  refine WpX.congr (m' := fun n => bnd (putE N e o.dst undefV) fun e => evOps cx (evFn E cx prim n) N ops l e)
    (WpX.bnd (f := fun (r : E) n => evOps cx (evFn E cx prim n) N ops l r) (WpX.pure (fun n => by rw [putE_eq hd]; rfl) (w.w.mono fun r h'' c'' l' ⟨hl', q⟩ => ⟨forall_app nolog hl', q⟩)))
    fun n => by rw [evOps, stepOp, hw]
theorem WpL.nil {ops : List Oper} {al : List (List Acc)} (hl : logsOk ops al = true) (q : R e h c) : WpL E cx prim L N ops [] al e h c R :=
  ⟨WpX.pure (fun n => rfl) ⟨nolog, by rw [List.append_nil]; exact hl, q⟩⟩
theorem WpL.cons {ops l : List Oper} {al : List (List Acc)} {o : Oper} (hw : wantedV ops e o = some true) (hd : dstOk N o.dst = true)
    (w : WpX (fun n => opM cx (evFn E cx prim n) e o) h c fun v h' c' a => (∀ x ∈ a, L x) ∧ WpL E cx prim L N ops l (al ++ [a]) (putd e o.dst v) h' c' R) : WpL E cx prim L N ops (o :: l) al e h c R := by
  refine ⟨?_⟩
  obtain ⟨v, h1, c1, a, ⟨hla, ⟨⟨e2, as⟩, h2, c2, l2, ⟨hl2, hlog, q⟩, k2, hk2⟩⟩, k1, hk1⟩ := w
  refine ⟨(e2, a :: as), h2, c2, a ++ (l2 ++ []), ⟨forall_app hla (forall_app hl2 nolog), by simpa using hlog, q⟩, k1 + k2, fun n hn => ?_⟩
  show evLog cx (evFn E cx prim n) N ops (o :: l) e h c = _
  rw [evLog]
  refine bnd_eq (a := (putd e o.dst v, a)) (h' := h1) (c' := c1) ?_ (bnd_eq (hk2 n (by omega)) rfl)
  have : stepOp cx (evFn E cx prim n) N ops o e h c = .ok (putd e o.dst v) h1 c1 a := by
    rw [stepOp, hw, ← List.append_nil a]
    exact bnd_eq (hk1 n (by omega)) (by rw [putE_eq hd]; rfl)
  unfold listen
  rw [this]
theorem WpL.skip {ops l : List Oper} {al : List (List Acc)} {o : Oper} (hw : wantedV ops e o = some false) (hd : dstOk N o.dst = true) (w : WpL E cx prim L N ops l (al ++ [[]]) (putd e o.dst undefV) h c R) : WpL E cx prim L N ops (o :: l) al e h c R := by
  refine ⟨?_⟩
  obtain ⟨⟨e2, as⟩, h2, c2, l2, ⟨hl2, hlog, q⟩, k2, hk2⟩ := w.w
  refine ⟨(e2, [] :: as), h2, c2, [] ++ (l2 ++ []), ⟨forall_app nolog (forall_app hl2 nolog), by simpa using hlog, q⟩, k2, fun n hn => ?_⟩
  show evLog cx (evFn E cx prim n) N ops (o :: l) e h c = _
  rw [evLog]
  refine bnd_eq (a := (putd e o.dst undefV, [])) (h' := h) (c' := c) ?_ (bnd_eq (hk2 n hn) rfl)
  have : stepOp cx (evFn E cx prim n) N ops o e h c = .ok (putd e o.dst undefV) h c [] := by
    rw [stepOp, hw]
    show putE N e o.dst undefV h c = _
    rw [putE_eq hd]; rfl
  unfold listen
  rw [this]

/-! ## What a drawn region's operations touched -/

/-- No name is met twice, if it is not read alone. -/
def Dis (a b : List Acc) : Prop := ∀ x ∈ a, ∀ y ∈ b, x.name = y.name → x.writes = false ∧ y.writes = false
theorem hitsOne_of {n : Nat} {w : Bool} : ∀ {l : List Acc}, (∀ y ∈ l, n = y.name → w = false ∧ y.writes = false) → hitsOne n w l = false
  | [], _ => rfl
  | a :: l, h => by
    unfold hitsOne
    rw [hitsOne_of fun y hy => h y (List.mem_cons_of_mem _ hy), Bool.or_false]
    cases hb : Nat.beq a.name n with
    | false => rfl
    | true =>
      obtain ⟨h1, h2⟩ := h a (List.mem_cons_self ..) (Nat.eq_of_beq_eq_true hb).symm
      rw [h1, h2]; rfl
theorem meet_of {m : List Acc} : ∀ {l : List Acc}, Dis l m → meet l m = false
  | [], _ => rfl
  | a :: l, h => by
    unfold meet
    rw [meet_of fun x hx => h x (List.mem_cons_of_mem _ hx), Bool.or_false]
    exact hitsOne_of fun y hy e => h a (List.mem_cons_self ..) y hy e
def apP (i : Nat) (a : List Acc) : List (Nat × List Acc) → Prop
  | [] => True
  | (d, b) :: l => (d.testBit i = false → Dis a b) ∧ apP i a l
def allP : Nat → List (Nat × List Acc) → Prop
  | _, [] => True
  | i, (_, a) :: l => (a = [] ∨ apP i a l) ∧ allP (i + 1) l
theorem apP_ok {i : Nat} {a : List Acc} : ∀ {l : List (Nat × List Acc)}, apP i a l → apartFrom i a l = true
  | [], _ => rfl
  | (d, b) :: l, h => by
    unfold apartFrom
    rw [apP_ok h.2, Bool.and_true]
    cases hb : d.testBit i with
    | true => rfl
    | false => rw [meet_of (h.1 hb)]; rfl
theorem allP_ok : ∀ {i : Nat} {l : List (Nat × List Acc)}, allP i l → allApart i l = true
  | _, [], _ => rfl
  | i, (d, a) :: l, h => by
    unfold allApart
    rw [allP_ok h.2, Bool.and_true]
    cases a with
    | nil => rfl
    | cons x a =>
      rcases h.1 with h1 | h1
      · cases h1
      · exact apP_ok h1
theorem logsOk_of {ops : List Oper} {logs : List (List Acc)} {cs : List Nat} (hc : closure ops [] = cs) (h : allP 0 (cs.zip logs)) : logsOk ops logs = true := by
  unfold logsOk
  rw [hc, allP_ok h, Bool.or_true]

/-! ## Loops -/

theorem WpC.loop {b : Code} (w : WpLoop E cx prim L N b e h c Q) : WpC E cx prim L N (.loop b) e h c Q := by
  obtain ⟨r, h', c', l, q, k, hk⟩ := w.w
  exact ⟨r, h', c', l, q, k, fun n hn => by show evCode cx (evFn E cx prim n) false N n (.loop b) [] e h c = _; rw [evCode]; exact hk n n hn hn⟩
theorem WpLoop.step {b : Code} (w : WpC E cx prim L N b e h c (seqQ Q fun e' h' c' => WpLoop E cx prim L N b e' h' c' Q)) : WpLoop E cx prim L N b e h c Q := by
  obtain ⟨⟨x, e', ms⟩, h', c', l, ⟨hl, hms, q⟩, k, hk⟩ := w.w
  simp only at hms q
  subst hms
  refine ⟨?_⟩
  cases x with
  | normal =>
    obtain ⟨r, h'', c'', l', ⟨hl', hm', q'⟩, k', hk'⟩ := (show WpLoop _ _ _ _ _ _ _ _ _ _ from q).w
    refine ⟨r, h'', c'', l ++ l', ⟨forall_app hl hl', hm', q'⟩, k + k' + 1, fun n j hn hj => ?_⟩
    obtain ⟨j, rfl⟩ : ∃ i, j = i + 1 := ⟨j - 1, by omega⟩
    rw [loopM]
    exact bnd_eq (hk n (by omega)) (hk' n j (by omega) (by omega))
  | exit i =>
    refine ⟨(.exit i, e', []), h', c', l ++ [], ⟨forall_app hl nolog, rfl, q⟩, k + 1, fun n j hn hj => ?_⟩
    obtain ⟨j, rfl⟩ : ∃ i, j = i + 1 := ⟨j - 1, by omega⟩
    rw [loopM]
    exact bnd_eq (hk n (by omega)) rfl
  | ret =>
    refine ⟨(.ret, e', []), h', c', l ++ [], ⟨forall_app hl nolog, rfl, q⟩, k + 1, fun n j hn hj => ?_⟩
    obtain ⟨j, rfl⟩ : ∃ i, j = i + 1 := ⟨j - 1, by omega⟩
    rw [loopM]
    exact bnd_eq (hk n (by omega)) rfl
/-- A loop by an invariant and a measure. -/
theorem WpLoop.ind {b : Code} {X : Type} (I : X → E → H → Nat → Prop) (μ : X → Nat)
    (step : ∀ x e h c, I x e h c → WpC E cx prim L N b e h c (seqQ Q fun e' h' c' => ∃ y, μ y < μ x ∧ I y e' h' c')) :
    ∀ x e h c, I x e h c → WpLoop E cx prim L N b e h c Q := by
  suffices hh : ∀ k x e h c, μ x < k → I x e h c → WpLoop E cx prim L N b e h c Q from fun x e h c hi => hh (μ x + 1) x e h c (Nat.lt_succ_self _) hi
  intro k
  induction k with
  | zero => intro x e h c hk; exact absurd hk (Nat.not_lt_zero _)
  | succ k ih =>
    intro x e h c hk hi
    refine WpLoop.step ((step x e h c hi).mono fun ex e' h' c' q => ?_)
    cases ex with
    | normal => obtain ⟨y, hy, hi'⟩ := q; exact ih y e' h' c' (by omega) hi'
    | exit i => exact q
    | ret => exact q

/-! ## Functions -/

def resV (e : E) : List ResultVar → Option (List V)
  | [] => some []
  | .tmp t :: l => match MapI.get e t with
    | none => none
    | some v => match resV e l with
      | none => none
      | some vs => some (v :: vs)
  | .cell _ _ :: _ => none
theorem resM_eq : ∀ {l : List ResultVar} {vs : List V}, resV e l = some vs → (resM cx e l : M H (List V)) h c = .ok vs h c []
  | [], vs, hr => by simp [resV] at hr; subst hr; rfl
  | .tmp t :: l, vs, hr => by
    simp only [resV] at hr
    cases hg : MapI.get e t with
    | none => rw [hg] at hr; cases hr
    | some v =>
      rw [hg] at hr
      cases hv : resV e l with
      | none => simp only [hv] at hr; cases hr
      | some ws =>
        simp only [hv, Option.some.injEq] at hr; subst hr
        simp only [resM, hg, lift, bnd, Ab.ret, resM_eq hv, List.append_nil]
  | .cell _ _ :: _, vs, hr => by simp [resV] at hr

/-- What a function's code must come to. -/
def outQ (rs : List ResultVar) (Q : V → H → Nat → Prop) : Ex → E → H → Nat → Prop
  | .exit _, _, _, _ => False
  | _, e, h, c => ∃ vs, resV e rs = some vs ∧ Q (tup vs) h c
theorem enter {f : Nat} {fn : Func} {code : Code} {xs : List V} {Q : V → H → Nat → Prop} (hf : cx.fn f = some fn) (hb : fn.body = some code) (hp : prim f = none) (hn : xs.length ≤ fn.ntmps)
    (w : WpC E cx prim L fn.ntmps code (initE xs 0 (MapI.emp : E)) h c (outQ fn.results.toList Q)) : WpX (fun n => evFn E cx prim n (.fn f) xs) h c fun v h' c' l => (∀ x ∈ l, L x) ∧ Q v h' c' := by
  obtain ⟨⟨x, e', ms⟩, h', c', l, ⟨hl, hms, q⟩, k, hk⟩ := w.w
  simp only at hms q
  subst hms
  have key : ∃ vs, resV e' fn.results.toList = some vs ∧ Q (tup vs) h' c' ∧ ∀ i, x ≠ .exit i := by
    cases x with
    | exit i => exact q.elim
    | normal => obtain ⟨vs, a, b⟩ := q; exact ⟨vs, a, b, fun i h => by cases h⟩
    | ret => obtain ⟨vs, a, b⟩ := q; exact ⟨vs, a, b, fun i h => by cases h⟩
  obtain ⟨vs, hv, hQ, hx⟩ := key
  refine ⟨tup vs, h', c', l ++ ([] ++ ([] ++ [])), ⟨by simpa using hl, hQ⟩, k + 1, fun n hn' => ?_⟩
  obtain ⟨n, rfl⟩ : ∃ i, n = i + 1 := ⟨n - 1, by omega⟩
  show evFn E cx prim (n + 1) (.fn f) xs h c = _
  rw [evFn]
  simp only [hp, bodyM, hf, hb, if_pos hn]
  refine bnd_eq (hk n (by omega)) ?_
  cases x with
  | exit i => exact (hx i rfl).elim
  | normal => exact bnd_eq rfl (bnd_eq (resM_eq hv) rfl)
  | ret => exact bnd_eq rfl (bnd_eq (resM_eq hv) rfl)

/-! ## Operations -/

theorem lift_eq {α : Type} {s : String} {a : α} : (lift s (some a) : M H α) h c = .ok a h c [] := rfl
theorem getM_eq {n : Nat} {o : AObj} (hh : MapI.get h n = some o) : getM n h c = .ok o h c [.rd n] := by
  unfold getM
  rw [hh]
theorem setM_eq {n : Nat} {o p : AObj} (hh : MapI.get h n = some o) : setM n p h c = .ok () (MapI.set h n p) c [.wr n] := by
  unfold setM
  rw [hh]

variable {call : Nat → Tgt → List V → M H V} {W : V → H → Nat → List Acc → Prop} {ds : Option Tmp} {ty : Nat} {pos : String} {af : Array Edge} {gd : Option (Nat × Bool)}

theorem cut_one {cs : List V} {o : Nat} {v : V} (hv : nth cs o = some v) : cut cs o 1 = some [v] := by
  have hn : ∀ (l : List V) (i : Nat), nth l i = l[i]? := fun l i => by
    induction l generalizing i with
    | nil => simp [nth]
    | cons x l ih => cases i with
      | zero => simp [nth]
      | succ i => simp [nth, ih]
  rw [hn] at hv
  obtain ⟨hlt, he⟩ := List.getElem?_eq_some_iff.1 hv
  unfold cut
  rw [if_pos (by omega), List.drop_eq_getElem_cons hlt]
  simp [he]
theorem op_load {t : Nat} {x : Operand} {n o : Nat} {d : TypeDesc} {rw cl : Bool} {cs : List V} {v : V} (hx : ev1 cx e x = some (.ptr (some (n, o)))) (hd : cx.desc t = some d) (ha : aggD d = false)
    (hh : MapI.get h n = some (.cells rw cl cs)) (hv : nth cs o = some v) (q : W v h c [.rd n]) : WpX (fun k => opM cx (call k) e ⟨ds, .load t x, ty, pos, af, gd⟩) h c W :=
  WpX.pure (fun k => by simp only [opM, hx, lift, bnd, Ab.ret, asP, loadT, hd, ha, Bool.false_eq_true, if_false, loadC, getM, hh, cut_one hv, List.nil_append, List.append_nil]) q
theorem op_loadA {t : Nat} {x : Operand} {n o k : Nat} {d : TypeDesc} {rw cl : Bool} {cs l : List V} (hx : ev1 cx e x = some (.ptr (some (n, o)))) (hd : cx.desc t = some d) (ha : aggD d = true) (hk : cx.size t = some k)
    (hh : MapI.get h n = some (.cells rw cl cs)) (hv : cut cs o k = some l) (q : W (.agg l) h c [.rd n]) : WpX (fun k => opM cx (call k) e ⟨ds, .load t x, ty, pos, af, gd⟩) h c W :=
  WpX.pure (fun k => by simp only [opM, hx, lift, bnd, Ab.ret, asP, loadT, hd, ha, hk, if_true, loadC, getM, hh, hv, List.nil_append, List.append_nil]) q
theorem op_store {t : Nat} {x y : Operand} {n o k : Nat} {cl : Bool} {cs : List V} {v : V} (hx : ev1 cx e x = some (.ptr (some (n, o)))) (hy : ev1 cx e y = some v) (hk : cx.size t = some k) (hl : (cellsV v).length = k)
    (hh : MapI.get h n = some (.cells true cl cs)) (hb : o + k ≤ cs.length) (h1 : (cellsV v).all one1 = true) (q : W (.tuple []) (MapI.set h n (.cells true cl (setAll cs o (cellsV v)))) c [.rd n, .wr n]) :
    WpX (fun k => opM cx (call k) e ⟨ds, .store t x y, ty, pos, af, gd⟩) h c W :=
  WpX.pure (fun k' => by
    have e2 : storeC n o (cellsV v) h c = .ok () (MapI.set h n (.cells true cl (setAll cs o (cellsV v)))) c [.rd n, .wr n] := by
      refine bnd_eq (getM_eq hh) ?_
      simp only [hl, if_pos hb, h1, if_true]
      exact setM_eq hh
    have e1 : storeT cx t n o v h c = .ok () (MapI.set h n (.cells true cl (setAll cs o (cellsV v)))) c [.rd n, .wr n] := by
      unfold storeT
      simp only [hk, hl, if_true]
      exact e2
    show bnd (lift "operand" (ev1 cx e x)) (fun a => bnd (lift "operand" (ev1 cx e y)) fun v => bnd (asP a) fun (n, o) => bnd (storeT cx t n o v) fun _ => Ab.ret (V.tuple [])) h c = _
    rw [hx, hy]
    exact bnd_eq lift_eq (bnd_eq lift_eq (bnd_eq (a := (n, o)) (h' := h) (c' := c) (l := []) rfl (bnd_eq e1 rfl)))) q
theorem op_call {f : Nat} {args : Array Operand} {ats : Array Nat} {xs : List V} (ha : evs cx e args.toList = some xs) (w : WpX (fun n => call n (.fn f) xs) h c W) :
    WpX (fun n => opM cx (call n) e ⟨ds, .call ⟨.value (.func f), args, ats⟩, ty, pos, af, gd⟩) h c W := by
  obtain ⟨a, h', c', l, q, k, hk⟩ := w
  refine ⟨a, h', c', l, q, k, fun n hn => ?_⟩
  simp only [opM, callM, ha, lift, bnd, Ab.ret, ev1, List.nil_append, List.append_nil, hk n hn]
theorem op_indexAddr {t : Nat} {x y : Operand} {n o len el k : Nat} {cap : Cap} {ki : IntKind} {i : Int} (hx : ev1 cx e x = some (.slice (some (n, o)) len cap)) (hy : ev1 cx e y = some (.int ki i)) (hd : cx.desc t = some (.slice el))
    (hk : cx.size el = some k) (hb : 0 ≤ i ∧ i < len) (q : W (.ptr (some (n, o + i.toNat * k))) h c []) : WpX (fun k => opM cx (call k) e ⟨ds, .indexAddr t x y, ty, pos, af, gd⟩) h c W :=
  WpX.pure (fun k' => by simp only [opM, hx, hy, lift, bnd, Ab.ret, indexAddrM, hd, if_pos hb, hk, List.nil_append, List.append_nil]) q
theorem op_makeMap {t kt et : Nat} (hd : cx.desc t = some (.map kt et)) (q : W (.map (some c)) (MapI.set h c (.map true [] 0)) (c + 1) [.wr c]) :
    WpX (fun k => opM cx (call k) e ⟨ds, .makeMap t none, ty, pos, af, gd⟩) h c W :=
  WpX.pure (fun k' => by simp only [opM, lift, bnd, Ab.ret, newM, List.nil_append, List.append_nil]) q
theorem op_alloc {t : Nat} {z : V} (hz : cx.zero t = some z) (q : W (.ptr (some (c, 0))) (MapI.set h c (.cells true true (cellsV z))) (c + 1) [.wr c]) :
    WpX (fun k => opM cx (call k) e ⟨ds, .alloc t, ty, pos, af, gd⟩) h c W :=
  WpX.pure (fun k' => by simp only [opM, hz, lift, bnd, Ab.ret, newM, List.nil_append, List.append_nil]) q
theorem op_box {t : Nat} {x : Operand} {v : V} (hx : ev1 cx e x = some v) (q : W (.ptr (some (c, 0))) (MapI.set h c (.cells true true (cellsV v))) (c + 1) [.wr c]) :
    WpX (fun k => opM cx (call k) e ⟨ds, .box t x, ty, pos, af, gd⟩) h c W :=
  WpX.pure (fun k' => by simp only [opM, hx, lift, bnd, Ab.ret, newM, List.nil_append, List.append_nil]) q
/-- What a look-up yields. -/
def lookR (r : Option (Nat × V × Nat)) (ok : Bool) (z : V) : V :=
  match r with
  | some (_, v, _) => if ok then .tuple [v, .bool true] else v
  | none => if ok then .tuple [z, .bool false] else z
def delR (r : Option (Nat × V × Nat)) (es : List (V × V × Nat)) : List (V × V × Nat) :=
  match r with
  | some (i, _) => delNth es i
  | none => es
theorem op_lookup {t kt et : Nat} {x y : Operand} {n : Nat} {rw ok : Bool} {es : List (V × V × Nat)} {ck : Nat} {k z : V} {kd : TypeDesc} {r : Option (Nat × V × Nat)} (hx : ev1 cx e x = some (.map (some n))) (hy : ev1 cx e y = some k)
    (hd : cx.desc t = some (.map kt et)) (hkd : cx.desc kt = some kd) (hk : keyOk kd k = true) (hz : cx.zero et = some z) (hh : MapI.get h n = some (.map rw es ck)) (hf : findK k es = some r)
    (q : W (lookR r ok z) h c [.rd n]) :
    WpX (fun k => opM cx (call k) e ⟨ds, .lookup t x y ok, ty, pos, af, gd⟩) h c W :=
  WpX.pure (fun k' => by
    show bnd (lift "operand" (ev1 cx e x)) (fun a => bnd (lift "operand" (ev1 cx e y)) fun b => lookupM cx t a b ok) h c = _
    rw [hx, hy]
    refine bnd_eq lift_eq (bnd_eq lift_eq (b := lookR r ok z) ?_)
    unfold lookupM
    simp only [hd, hkd, hk, if_true]
    simp only [bnd, getM, hh, Ab.ret, hf]
    cases r with
    | none => simp only [hz]; rfl
    | some p => rfl) q
theorem op_mapEntry {t kt et : Nat} {x y : Operand} {n : Nat} {es : List (V × V × Nat)} {ck : Nat} {k z : V} {kd : TypeDesc} (hx : ev1 cx e x = some (.map (some n))) (hy : ev1 cx e y = some k)
    (hd : cx.desc t = some (.map kt et)) (hkd : cx.desc kt = some kd) (hk : keyOk kd k = true) (hz : cx.zero et = some z) (hh : MapI.get h n = some (.map true es ck)) (hf : findK k es = some none)
    (q : W (.tuple [z, .int .i64 ck]) (MapI.set h n (.map true (es ++ [(k, z, ck)]) (ck + 1))) c [.rd n, .wr n]) :
    WpX (fun k => opM cx (call k) e ⟨ds, .mapEntry t x y, ty, pos, af, gd⟩) h c W :=
  WpX.pure (fun k' => by simp only [opM, hx, hy, lift, bnd, Ab.ret, mapEntryM, hd, hkd, hk, if_true, getM, setM, hh, hf, hz, List.nil_append, List.append_nil, List.cons_append]) q
theorem op_entryStore {t : Nat} {x y z : Operand} {n : Nat} {es es' : List (V × V × Nat)} {ck : Nat} {k : IntKind} {b : Int} {v : V} (hx : ev1 cx e x = some (.map (some n))) (hy : ev1 cx e y = some (.int k b)) (hz : ev1 cx e z = some v)
    (hh : MapI.get h n = some (.map true es ck)) (hs : stampV b v es = some es') (q : W (.tuple []) (MapI.set h n (.map true es' ck)) c [.rd n, .wr n]) :
    WpX (fun k => opM cx (call k) e ⟨ds, .entryStore t x y z, ty, pos, af, gd⟩) h c W :=
  WpX.pure (fun k' => by simp only [opM, hx, hy, hz, lift, bnd, Ab.ret, entryStoreM, getM, setM, hh, hs, List.nil_append, List.append_nil, List.cons_append]) q
theorem op_delete {args : Array Operand} {ats : Array Nat} {t kt et : Nat} {n : Nat} {es : List (V × V × Nat)} {ck : Nat} {k : V} {kd : TypeDesc} {r : Option (Nat × V × Nat)} {xs : List V} {ts : List Nat} (ha : evs cx e args.toList = some (.map (some n) :: k :: xs)) (ht : ats.toList = t :: ts)
    (hd : cx.desc t = some (.map kt et)) (hkd : cx.desc kt = some kd) (hk : keyOk kd k = true) (hh : MapI.get h n = some (.map true es ck)) (hf : findK k es = some r)
    (q : W (.tuple []) (MapI.set h n (.map true (delR r es) ck)) c [.rd n, .wr n]) :
    WpX (fun k => opM cx (call k) e ⟨ds, .call ⟨.builtin .delete, args, ats⟩, ty, pos, af, gd⟩) h c W :=
  WpX.pure (fun k' => by
    show callM cx (call k') e ⟨.builtin .delete, args, ats⟩ h c = _
    unfold callM
    simp only [ha, ht]
    refine bnd_eq lift_eq ?_
    simp only [builtinM, deleteM, hd, hkd, hk, if_true]
    refine bnd_eq (getM_eq hh) ?_
    simp only [hf]
    cases r with
    | none => exact bnd_eq (setM_eq hh) rfl
    | some p => exact bnd_eq (setM_eq hh) rfl) q
theorem op_len {args : Array Operand} {ats : Array Nat} {v : V} {xs : List V} {t : Nat} {ts : List Nat} {d : TypeDesc} {n : Nat} {a : Option (Nat × Nat)} {cap : Cap} {el : Nat} (ha : evs cx e args.toList = some (.slice a n cap :: xs)) (ht : ats.toList = t :: ts) (hd : cx.desc t = some (.slice el))
    (q : W (.int .i64 n) h c []) : WpX (fun k => opM cx (call k) e ⟨ds, .call ⟨.builtin .len, args, ats⟩, ty, pos, af, gd⟩) h c W :=
  WpX.pure (fun k' => by simp only [opM, callM, ha, ht, lift, bnd, Ab.ret, builtinM, lenM, hd, List.nil_append, List.append_nil]) q
theorem op_lenMap {args : Array Operand} {ats : Array Nat} {xs : List V} {t : Nat} {ts : List Nat} {n : Nat} {kt et : Nat} {rw : Bool} {es : List (V × V × Nat)} {ck : Nat} (ha : evs cx e args.toList = some (.map (some n) :: xs)) (ht : ats.toList = t :: ts) (hd : cx.desc t = some (.map kt et))
    (hh : MapI.get h n = some (.map rw es ck)) (q : W (.int .i64 es.length) h c [.rd n]) : WpX (fun k => opM cx (call k) e ⟨ds, .call ⟨.builtin .len, args, ats⟩, ty, pos, af, gd⟩) h c W :=
  WpX.pure (fun k' => by simp only [opM, callM, ha, ht, lift, bnd, Ab.ret, builtinM, lenM, hd, getM, hh, List.nil_append, List.append_nil]) q
end
end Go.Ab
