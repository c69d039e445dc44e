/- The abstract evaluator: what an operation does hangs on the names that it accesses alone. -/
import Derived.Test.YtcenbfjhhaialaaAc15
set_option linter.unusedVariables false
set_option linter.unusedSectionVars false
set_option linter.unusedSimpArgs false
set_option linter.unnecessarySimpa false
namespace Go.Ab
open Go.RowKit

section
variable {H : Type} [MapI H AObj] {α β : Type}

/-- What is not written stands. -/
def Fr (h h1 : H) (l : List Acc) : Prop := ∀ n, (∀ x ∈ l, x.name = n → x.writes = false) → MapI.get h1 n = MapI.get h n
def Agree (h h' : H) (l : List Acc) : Prop := ∀ x ∈ l, MapI.get h' x.name = MapI.get h x.name

def Local (m : M H α) : Prop := ∀ h c a h1 c1 l, m h c = .ok a h1 c1 l → c ≤ c1 ∧ Fr h h1 l ∧ ∀ h', Agree h h' l → ∃ h1', m h' c = .ok a h1' c1 l ∧ Agree h1 h1' l

theorem Local.ret {a : α} : Local (ret a : M H α) := fun h c b h1 c1 l e => by
  obtain ⟨rfl, rfl, rfl, rfl⟩ := ret_ok e
  exact ⟨Nat.le_refl _, fun _ _ => rfl, fun h' _ => ⟨h', rfl, fun x hx => by cases hx⟩⟩
theorem Local.fail {s : String} : Local (fail s : M H α) := fun h c b h1 c1 l e => (fail_ok e).elim
theorem Local.lift {s : String} {x : Option α} : Local (lift s x : M H α) := by
  cases x
  · exact Local.fail
  · exact Local.ret
theorem Local.bnd {m : M H α} {f : α → M H β} (hm : Local m) (hf : ∀ a, Local (f a)) : Local (bnd m f) := fun h c b h2 c2 l e => by
  obtain ⟨a, h1, c1, l1, l2, e1, e2, rfl⟩ := bnd_ok e
  obtain ⟨p1, p2, p3⟩ := hm _ _ _ _ _ _ e1
  obtain ⟨q1, q2, q3⟩ := hf a _ _ _ _ _ _ e2
  refine ⟨Nat.le_trans p1 q1, fun n hn => ?_, fun h' ha => ?_⟩
  · rw [q2 n fun x hx => hn x (List.mem_append_right _ hx), p2 n fun x hx => hn x (List.mem_append_left _ hx)]
  · obtain ⟨h1', e1', a1⟩ := p3 h' fun x hx => ha x (List.mem_append_left _ hx)
    obtain ⟨_, p2', _⟩ := hm _ _ _ _ _ _ e1'
    obtain ⟨h2', e2', a2⟩ := q3 h1' fun x hx => by
      by_cases hy : ∃ y ∈ l1, y.name = x.name
      · obtain ⟨y, hy, hn⟩ := hy; rw [← hn]; exact a1 y hy
      · have hno : ∀ y ∈ l1, y.name = x.name → y.writes = false := fun y hy' hn => (hy ⟨y, hy', hn⟩).elim
        rw [p2 _ hno, p2' _ hno]; exact ha x (List.mem_append_right _ hx)
    obtain ⟨_, q2', _⟩ := hf a _ _ _ _ _ _ e2'
    refine ⟨h2', by unfold Ab.bnd; rw [e1']; simp only [e2'], fun x hx => ?_⟩
    by_cases hy : ∃ y ∈ l2, y.name = x.name
    · obtain ⟨y, hy, hn⟩ := hy; rw [← hn]; exact a2 y hy
    · have hno : ∀ y ∈ l2, y.name = x.name → y.writes = false := fun y hy' hn => (hy ⟨y, hy', hn⟩).elim
      rcases List.mem_append.1 hx with hx | hx
      · rw [q2 _ hno, q2' _ hno]; exact a1 x hx
      · exact (hy ⟨x, hx, rfl⟩).elim
theorem Local.listen {m : M H α} (hm : Local m) : Local (listen m) := fun h c b h2 c2 l e => by
  unfold Ab.listen at e
  cases e1 : m h c with
  | err s => rw [e1] at e; cases e
  | ok a h1 c1 l1 =>
    rw [e1] at e; cases e
    obtain ⟨p1, p2, p3⟩ := hm _ _ _ _ _ _ e1
    refine ⟨p1, p2, fun h' ha => ?_⟩
    obtain ⟨h1', e1', a1⟩ := p3 h' ha
    exact ⟨h1', by unfold Ab.listen; rw [e1'], a1⟩
theorem Local.get {n : Nat} : Local (getM n : M H AObj) := fun h c o h1 c1 l e => by
  obtain ⟨hg, rfl, rfl, rfl⟩ := getM_ok e
  refine ⟨Nat.le_refl _, fun _ _ => rfl, fun h' ha => ⟨h', ?_, ha⟩⟩
  have := ha (.rd n) (List.mem_singleton.2 rfl)
  unfold getM
  rw [show MapI.get h' n = MapI.get h1 n from this, hg]
theorem Local.set {n : Nat} {o : AObj} : Local (setM n o : M H Unit) := fun h c u h1 c1 l e => by
  obtain ⟨⟨p, hg⟩, rfl, rfl, rfl⟩ := setM_ok e
  refine ⟨Nat.le_refl _, fun m hm => ?_, fun h' ha => ⟨MapI.set h' n o, ?_, fun x hx => ?_⟩⟩
  · have : n ≠ m := fun e => by have := hm (.wr n) (List.mem_singleton.2 rfl) e; cases this
    exact MapI.get_ne _ _ _ _ this
  · have := ha (.wr n) (List.mem_singleton.2 rfl)
    unfold setM
    rw [show MapI.get h' n = MapI.get h n from this, hg]
  · cases List.mem_singleton.1 hx
    show MapI.get (MapI.set h' n o) n = MapI.get (MapI.set h n o) n
    rw [MapI.get_same, MapI.get_same]
theorem Local.new {o : AObj} : Local (newM o : M H Nat) := fun h c u h1 c1 l e => by
  obtain ⟨rfl, rfl, rfl, rfl⟩ := newM_ok e
  refine ⟨Nat.le_succ _, fun m hm => ?_, fun h' ha => ⟨MapI.set h' u o, rfl, fun x hx => ?_⟩⟩
  · have : u ≠ m := fun e => by have := hm (.wr u) (List.mem_singleton.2 rfl) e; cases this
    exact MapI.get_ne _ _ _ _ this
  · cases List.mem_singleton.1 hx
    show MapI.get (MapI.set h' u o) u = MapI.get (MapI.set h u o) u
    rw [MapI.get_same, MapI.get_same]

variable {cx : Cx}

theorem Local.loadC {n o k : Nat} : Local (loadC n o k : M H (List V)) := by
  unfold Ab.loadC
  repeat' first | with_reducible exact Local.fail | with_reducible exact Local.lift | with_reducible exact Local.get | (with_reducible refine Local.bnd ?_ fun _ => ?_) | split
theorem Local.storeC {n o : Nat} {vs : List V} : Local (storeC n o vs : M H Unit) := by
  unfold Ab.storeC
  repeat' first | with_reducible exact Local.fail | with_reducible exact Local.set | with_reducible exact Local.get | (with_reducible refine Local.bnd ?_ fun _ => ?_) | split
theorem Local.loadT {t n o : Nat} : Local (loadT cx t n o : M H V) := by
  unfold Ab.loadT
  repeat' first | with_reducible exact Local.fail | with_reducible exact Local.ret | with_reducible exact Local.lift | with_reducible exact Local.loadC | (with_reducible refine Local.bnd ?_ fun _ => ?_) | split
theorem Local.storeT {t n o : Nat} {v : V} : Local (storeT cx t n o v : M H Unit) := by
  unfold Ab.storeT
  repeat' first | with_reducible exact Local.fail | with_reducible exact Local.storeC | split
theorem Local.asP {v : V} : Local (asP v : M H (Nat × Nat)) := by
  unfold Ab.asP
  repeat' first | with_reducible exact Local.fail | with_reducible exact Local.ret | split
theorem Local.eqM {t : Nat} {x y : V} : Local (eqM cx t x y : M H Bool) := by
  unfold Ab.eqM
  repeat' first | with_reducible exact Local.fail | with_reducible exact Local.ret | with_reducible exact Local.lift | with_reducible exact Local.get | (with_reducible refine Local.bnd ?_ fun _ => ?_) | split
theorem Local.binM {op : BinOp} {t : Nat} {b : Bool} {x y : V} : Local (binM cx op t b x y : M H V) := by
  unfold Ab.binM
  repeat' first | with_reducible exact Local.fail | with_reducible exact Local.ret | with_reducible exact Local.lift | with_reducible exact Local.eqM | (with_reducible refine Local.bnd ?_ fun _ => ?_) | split
theorem Local.buildSliceM {t n : Nat} {ps : List (Nat × V)} : Local (buildSliceM cx t n ps : M H V) := by
  unfold Ab.buildSliceM
  repeat' first | with_reducible exact Local.fail | with_reducible exact Local.ret | with_reducible exact Local.lift | with_reducible exact Local.new | (with_reducible refine Local.bnd ?_ fun _ => ?_) | split
theorem Local.makeSliceM {t : Nat} {x y : V} : Local (makeSliceM cx t x y : M H V) := by
  unfold Ab.makeSliceM
  repeat' first | with_reducible exact Local.fail | with_reducible exact Local.ret | with_reducible exact Local.lift | with_reducible exact Local.new | (with_reducible refine Local.bnd ?_ fun _ => ?_) | split
theorem Local.sliceM {t : Nat} {x : V} {a b c : Option V} : Local (sliceM cx t x a b c : M H V) := by
  unfold Ab.sliceM
  repeat' first | with_reducible exact Local.fail | with_reducible exact Local.ret | with_reducible exact Local.lift | with_reducible exact Local.get | (with_reducible refine Local.bnd ?_ fun _ => ?_) | split
theorem Local.indexAddrM {t : Nat} {x i : V} : Local (indexAddrM cx t x i : M H V) := by
  unfold Ab.indexAddrM
  repeat' first | with_reducible exact Local.fail | with_reducible exact Local.ret | with_reducible exact Local.lift | with_reducible exact Local.get | (with_reducible refine Local.bnd ?_ fun _ => ?_) | split
theorem Local.lookupM {t : Nat} {x i : V} {ok : Bool} : Local (lookupM cx t x i ok : M H V) := by
  unfold Ab.lookupM
  repeat' first | with_reducible exact Local.fail | with_reducible exact Local.ret | with_reducible exact Local.lift | with_reducible exact Local.get | (with_reducible refine Local.bnd ?_ fun _ => ?_) | split
theorem Local.mapUpdateM {t : Nat} {m k x : V} : Local (mapUpdateM cx t m k x : M H V) := by
  unfold Ab.mapUpdateM
  repeat' first | with_reducible exact Local.fail | with_reducible exact Local.ret | with_reducible exact Local.lift | with_reducible exact Local.get | with_reducible exact Local.set | (with_reducible refine Local.bnd ?_ fun _ => ?_) | split
theorem Local.mapEntryM {t : Nat} {m k : V} : Local (mapEntryM cx t m k : M H V) := by
  unfold Ab.mapEntryM
  repeat' first | with_reducible exact Local.fail | with_reducible exact Local.ret | with_reducible exact Local.lift | with_reducible exact Local.get | with_reducible exact Local.set | (with_reducible refine Local.bnd ?_ fun _ => ?_) | split
theorem Local.entryStoreM {m s x : V} : Local (entryStoreM m s x : M H V) := by
  unfold Ab.entryStoreM
  repeat' first | with_reducible exact Local.fail | with_reducible exact Local.ret | with_reducible exact Local.lift | with_reducible exact Local.get | with_reducible exact Local.set | (with_reducible refine Local.bnd ?_ fun _ => ?_) | split
theorem Local.deleteM {t : Nat} {m k : V} : Local (deleteM cx t m k : M H V) := by
  unfold Ab.deleteM
  repeat' first | with_reducible exact Local.fail | with_reducible exact Local.ret | with_reducible exact Local.lift | with_reducible exact Local.get | with_reducible exact Local.set | (with_reducible refine Local.bnd ?_ fun _ => ?_) | split
theorem Local.lenM {t : Nat} {x : V} : Local (lenM cx t x : M H V) := by
  unfold Ab.lenM
  repeat' first | with_reducible exact Local.fail | with_reducible exact Local.ret | with_reducible exact Local.lift | with_reducible exact Local.get | (with_reducible refine Local.bnd ?_ fun _ => ?_) | split
theorem Local.firstM {k n : Nat} {x : V} : Local (firstM k n x : M H (List V)) := by
  unfold Ab.firstM
  repeat' first | with_reducible exact Local.fail | with_reducible exact Local.ret | with_reducible exact Local.loadC | split
theorem Local.appendedM {e k : Nat} {xt : Option Nat} {x : V} : Local (appendedM cx e k xt x : M H (Nat × List V)) := by
  unfold Ab.appendedM
  repeat' first | with_reducible exact Local.fail | with_reducible exact Local.ret | with_reducible exact Local.lift | with_reducible exact Local.firstM | (with_reducible refine Local.bnd ?_ fun _ => ?_) | split
theorem Local.growM {k n : Nat} {a b : List V} : Local (growM k a b n : M H V) := by
  unfold Ab.growM
  repeat' first | with_reducible exact Local.ret | with_reducible exact Local.new | (with_reducible refine Local.bnd ?_ fun _ => ?_)
theorem Local.appendM {ts : List Nat} {xs : List V} : Local (appendM cx ts xs : M H V) := by
  unfold Ab.appendM
  repeat' first | with_reducible exact Local.fail | with_reducible exact Local.ret | with_reducible exact Local.lift | with_reducible exact Local.get | with_reducible exact Local.set | with_reducible exact Local.new | with_reducible exact Local.appendedM | with_reducible exact Local.growM | with_reducible exact Local.firstM | with_reducible exact Local.storeC | (with_reducible refine Local.bnd ?_ fun _ => ?_) | split
theorem Local.copyM {t : Nat} {d s : V} : Local (copyM cx t d s : M H V) := by
  unfold Ab.copyM
  repeat' first | with_reducible exact Local.fail | with_reducible exact Local.ret | with_reducible exact Local.firstM | with_reducible exact Local.storeC | (with_reducible refine Local.bnd ?_ fun _ => ?_) | split
theorem Local.clearM {t : Nat} {x : V} : Local (clearM cx t x : M H V) := by
  unfold Ab.clearM
  repeat' first | with_reducible exact Local.fail | with_reducible exact Local.ret | with_reducible exact Local.lift | with_reducible exact Local.storeC | (with_reducible refine Local.bnd ?_ fun _ => ?_) | split
theorem Local.capM {t : Nat} {x : V} : Local (capM cx t x : M H V) := by
  unfold Ab.capM
  repeat' first | with_reducible exact Local.fail | with_reducible exact Local.ret | split
theorem Local.builtinM {b : Builtin} {ts : List Nat} {xs : List V} : Local (builtinM cx b ts xs : M H V) := by
  unfold Ab.builtinM
  repeat' first | with_reducible exact Local.fail | with_reducible exact Local.lift | with_reducible exact Local.appendM | with_reducible exact Local.lenM | with_reducible exact Local.copyM | with_reducible exact Local.deleteM | with_reducible exact Local.clearM | with_reducible exact Local.capM | split
theorem Local.convertM {s d : Nat} {x : V} : Local (convertM cx s d x : M H V) := by
  unfold Ab.convertM
  repeat' first | with_reducible exact Local.fail | with_reducible exact Local.ret | with_reducible exact Local.lift | with_reducible exact Local.new | with_reducible exact Local.loadC | (with_reducible refine Local.bnd ?_ fun _ => ?_) | split
theorem Local.assertM {t : Nat} {x : V} {ok : Bool} : Local (assertM cx x t ok : M H V) := by
  unfold Ab.assertM
  repeat' first | with_reducible exact Local.fail | with_reducible exact Local.ret | with_reducible exact Local.lift | (with_reducible refine Local.bnd ?_ fun _ => ?_) | split

variable {E : Type} [MapI E V] {call : Tgt → List V → M H V}

theorem Local.callM (hc : ∀ f xs, Local (call f xs)) {e : E} {c : Call} : Local (callM cx call e c : M H V) := by
  unfold Ab.callM
  repeat' first | exact hc _ _ | with_reducible exact Local.fail | with_reducible exact Local.lift | with_reducible exact Local.builtinM | (with_reducible refine Local.bnd ?_ fun _ => ?_) | split
theorem Local.opM (hc : ∀ f xs, Local (call f xs)) {e : E} {o : Oper} : Local (opM cx call e o : M H V) := by
  unfold Ab.opM
  split
  all_goals (try dsimp only)
  all_goals repeat' first | with_reducible exact Local.callM hc | with_reducible exact Local.fail | with_reducible exact Local.ret | with_reducible exact Local.lift | with_reducible exact Local.get | with_reducible exact Local.set | with_reducible exact Local.new | with_reducible exact Local.asP | with_reducible exact Local.loadT | with_reducible exact Local.storeT | with_reducible exact Local.binM | with_reducible exact Local.buildSliceM | with_reducible exact Local.makeSliceM | with_reducible exact Local.sliceM | with_reducible exact Local.indexAddrM | with_reducible exact Local.lookupM | with_reducible exact Local.mapUpdateM | with_reducible exact Local.mapEntryM | with_reducible exact Local.entryStoreM | with_reducible exact Local.convertM | with_reducible exact Local.assertM | (with_reducible refine Local.bnd ?_ fun _ => ?_) | split
theorem Local.putE {N : Nat} {e : E} {d : Option Tmp} {v : V} : Local (putE N e d v : M H E) := by
  unfold Ab.putE
  repeat' first | with_reducible exact Local.fail | with_reducible exact Local.ret | split
theorem Local.stepOp (hc : ∀ f xs, Local (call f xs)) {N : Nat} {ops : List Oper} {o : Oper} {e : E} : Local (stepOp cx call N ops o e : M H E) := by
  unfold Ab.stepOp
  split
  · exact Local.bnd (Local.opM hc) fun _ => Local.putE
  · exact Local.putE
  · exact Local.fail
theorem Local.evOps (hc : ∀ f xs, Local (call f xs)) {N : Nat} {ops : List Oper} : ∀ {l : List Oper} {e : E}, Local (evOps cx call N ops l e : M H E)
  | [], e => by unfold Ab.evOps; exact Local.ret
  | o :: l, e => by unfold Ab.evOps; exact Local.bnd (Local.stepOp hc) fun _ => Local.evOps hc
theorem Local.evLog (hc : ∀ f xs, Local (call f xs)) {N : Nat} {ops : List Oper} : ∀ {l : List Oper} {e : E}, Local (evLog cx call N ops l e : M H (E × List (List Acc)))
  | [], e => by unfold Ab.evLog; exact Local.ret
  | o :: l, e => by unfold Ab.evLog; exact Local.bnd (Local.listen (Local.stepOp hc)) fun _ => Local.bnd (Local.evLog hc) fun _ => Local.ret
theorem Local.evDrawn (hc : ∀ f xs, Local (call f xs)) {N : Nat} {ops : List Oper} {e : E} : Local (evDrawn cx call N ops e : M H E) := by
  unfold Ab.evDrawn
  refine Local.bnd (Local.evLog hc) fun _ => ?_
  dsimp only
  split
  · exact Local.ret
  · exact Local.fail
theorem Local.loopM {body : List Nat → E → M H (Out E)} (hb : ∀ ms e, Local (body ms e)) : ∀ {n : Nat} {ms : List Nat} {e : E}, Local (loopM body n ms e)
  | 0, ms, e => by unfold Ab.loopM; exact Local.fail
  | n + 1, ms, e => by
    unfold Ab.loopM
    refine Local.bnd (hb _ _) fun r => ?_
    split
    · exact Local.loopM hb
    · exact Local.ret
theorem Local.evCode (hc : ∀ t xs, Local (call t xs)) {rd : Bool} {N n : Nat} : ∀ {c : Code} {ms : List Nat} {e : E}, Local (evCode cx call rd N n c ms e : M H (Out E))
  | .skip, ms, e => by unfold Ab.evCode; exact Local.ret
  | .region _ ops draw, ms, e => by
    unfold Ab.evCode
    refine Local.bnd ?_ fun _ => Local.ret
    split
    · exact Local.evDrawn hc
    · exact Local.evOps hc
  | .seq a b, ms, e => by
    unfold Ab.evCode
    refine Local.bnd (Local.evCode hc) fun _ => ?_
    split
    · exact Local.evCode hc
    · exact Local.ret
  | .cond c a b, ms, e => by
    unfold Ab.evCode
    refine Local.bnd Local.lift fun _ => ?_
    split
    · exact Local.evCode hc
    · exact Local.evCode hc
    · exact Local.fail
  | .block id b, ms, e => by
    unfold Ab.evCode
    refine Local.bnd (Local.evCode hc) fun _ => ?_
    split
    · split
      · exact Local.ret
      · exact Local.ret
    · exact Local.ret
  | .loop b, ms, e => by
    unfold Ab.evCode
    exact Local.loopM (fun ms e => Local.evCode hc)
  | .exit id, ms, e => by unfold Ab.evCode; exact Local.ret
  | .label _, ms, e => by unfold Ab.evCode; exact Local.ret
  | .ret, ms, e => by unfold Ab.evCode; exact Local.ret
  | .refuse w, _, _ => by unfold Ab.evCode; exact Local.fail
  | .scope _, _, _ => by unfold Ab.evCode; exact Local.fail
  | .goto _, _, _ => by unfold Ab.evCode; exact Local.fail
  | .rangeFunc g ps as bo, ms, e => by
    unfold Ab.evCode
    split
    · exact Local.fail
    · refine Local.bnd Local.lift fun _ => ?_
      split
      · split
        · refine Local.bnd Local.new fun _ => Local.bnd Local.new fun _ => Local.bnd (hc _ _) fun _ => Local.bnd Local.get fun _ => ?_
          split
          · exact Local.bnd Local.set fun _ => Local.ret
          · exact Local.bnd Local.set fun _ => Local.ret
          · exact Local.fail
        · exact Local.fail
      · exact Local.fail
theorem Local.resM {e : E} : ∀ {l : List ResultVar}, Local (resM cx e l : M H (List V))
  | [] => by unfold Ab.resM; exact Local.ret
  | .tmp t :: l => by unfold Ab.resM; exact Local.bnd Local.lift fun _ => Local.bnd Local.resM fun _ => Local.ret
  | .cell a t :: l => by
    unfold Ab.resM
    exact Local.bnd Local.lift fun _ => Local.bnd Local.asP fun _ => Local.bnd Local.loadT fun _ => Local.bnd Local.resM fun _ => Local.ret
theorem Local.spendM : ∀ {ms : List Nat}, Local (spendM ms : M H Unit)
  | [] => by unfold Ab.spendM; exact Local.ret
  | d :: ms => by
    unfold Ab.spendM
    refine Local.bnd Local.get fun _ => ?_
    split
    · exact Local.bnd Local.set fun _ => Local.spendM
    · exact Local.fail
theorem Local.bodyM (hc : ∀ t xs, Local (call t xs)) {n f : Nat} {xs : List V} : Local (bodyM E cx call n f xs : M H V) := by
  unfold Ab.bodyM
  split
  · exact Local.fail
  · split
    · exact Local.fail
    · split
      · refine Local.bnd (Local.evCode hc) fun _ => ?_
        split
        · exact Local.fail
        · exact Local.bnd Local.spendM fun _ => Local.bnd Local.resM fun _ => Local.ret
      · exact Local.fail
theorem Local.roundM (hc : ∀ t xs, Local (call t xs)) {n l : Nat} {xs : List V} : Local (roundM E cx call n l xs : M H V) := by
  unfold Ab.roundM
  refine Local.bnd Local.get fun _ => ?_
  split
  · split
    · refine Local.bnd (Local.evCode hc) fun _ => ?_
      split
      · refine Local.bnd Local.get fun _ => ?_
        split
        · refine Local.bnd Local.set fun _ => Local.bnd (Local.evCode hc) fun r => ?_
          dsimp only
          refine Local.bnd Local.get fun _ => ?_
          split
          · split
            · exact Local.bnd Local.set fun _ => Local.ret
            · exact Local.bnd Local.set fun _ => Local.ret
          · exact Local.fail
        · exact Local.fail
      · exact Local.fail
    · exact Local.fail
  · exact Local.fail
theorem Local.evFn {prim : Nat → Option ((Tgt → List V → M H V) → List V → M H V)} (hp : ∀ f m call xs, prim f = some m → (∀ t xs, Local (call t xs)) → Local (m call xs)) :
    ∀ {n : Nat} {t : Tgt} {xs : List V}, Local (evFn E cx prim n t xs : M H V)
  | 0, t, xs => by unfold Ab.evFn; exact Local.fail
  | n + 1, .fn f, xs => by
    unfold Ab.evFn
    split
    · next h => exact hp _ _ _ _ h fun t xs => Local.evFn hp
    · exact Local.bodyM fun t xs => Local.evFn hp
  | n + 1, .yl l, xs => by
    unfold Ab.evFn
    exact Local.roundM fun t xs => Local.evFn hp
end
end Go.Ab
