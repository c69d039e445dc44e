/- The abstract evaluator: from a heap without entries at the next name or beyond, a run touches names below its last next name alone (its lower part is Ac16's with another word). -/
import Derived.Test.YtcenbfjhhaialaaAdL0
set_option linter.unusedVariables false
set_option linter.unusedSectionVars false
set_option linter.unusedSimpArgs false
set_option linter.unnecessarySimpa false
namespace Go.Ab
open Go.RowKit

section
variable {H : Type} [MapI H AObj] {α β : Type}

/-- No entry at the next name or beyond. -/
def Clear (h : H) (c : Nat) : Prop := ∀ n, c ≤ n → MapI.get h n = none
def Tidy (m : M H α) : Prop := ∀ h c a h1 c1 l, m h c = .ok a h1 c1 l → Clear h c → c ≤ c1 ∧ Clear h1 c1 ∧ ∀ x ∈ l, x.name < c1

theorem Tidy.ret {a : α} : Tidy (ret a : M H α) := fun h c b h1 c1 l e t => by
  obtain ⟨rfl, rfl, rfl, rfl⟩ := ret_ok e
  exact ⟨Nat.le_refl _, t, fun x hx => by cases hx⟩
theorem Tidy.fail {s : String} : Tidy (fail s : M H α) := fun h c b h1 c1 l e => (fail_ok e).elim
theorem Tidy.lift {s : String} {x : Option α} : Tidy (lift s x : M H α) := by
  cases x
  · exact Tidy.fail
  · exact Tidy.ret
theorem Tidy.bnd {m : M H α} {f : α → M H β} (hm : Tidy m) (hf : ∀ a, Tidy (f a)) : Tidy (bnd m f) := fun h c b h2 c2 l e t => by
  obtain ⟨a, h1, c1, l1, l2, e1, e2, rfl⟩ := bnd_ok e
  obtain ⟨p1, p2, p3⟩ := hm _ _ _ _ _ _ e1 t
  obtain ⟨q1, q2, q3⟩ := hf a _ _ _ _ _ _ e2 p2
  refine ⟨Nat.le_trans p1 q1, q2, fun x hx => ?_⟩
  rcases List.mem_append.1 hx with h | h
  · exact Nat.lt_of_lt_of_le (p3 x h) q1
  · exact q3 x h
theorem Tidy.listen {m : M H α} (hm : Tidy m) : Tidy (listen m) := fun h c b h2 c2 l e t => by
  unfold Ab.listen at e
  cases e1 : m h c with
  | err s => rw [e1] at e; cases e
  | ok a h1 c1 l1 =>
    rw [e1] at e; cases e
    exact hm _ _ _ _ _ _ e1 t
theorem Tidy.get {n : Nat} : Tidy (getM n : M H AObj) := fun h c o h1 c1 l e t => by
  obtain ⟨hg, rfl, rfl, rfl⟩ := getM_ok e
  refine ⟨Nat.le_refl _, t, fun x hx => ?_⟩
  cases List.mem_singleton.1 hx
  show n < _
  rcases Nat.lt_or_ge n c1 with h | h
  · exact h
  · rw [t n h] at hg; cases hg
theorem Tidy.set {n : Nat} {o : AObj} : Tidy (setM n o : M H Unit) := fun h c u h1 c1 l e t => by
  obtain ⟨⟨p, hg⟩, rfl, rfl, rfl⟩ := setM_ok e
  have hn : n < c1 := by
    rcases Nat.lt_or_ge n c1 with h | h
    · exact h
    · rw [t n h] at hg; cases hg
  refine ⟨Nat.le_refl _, fun m hm => ?_, fun x hx => ?_⟩
  · rw [MapI.get_ne _ _ _ _ (by omega)]; exact t m hm
  · cases List.mem_singleton.1 hx; exact hn
theorem Tidy.new {o : AObj} : Tidy (newM o : M H Nat) := fun h c u h1 c1 l e t => by
  obtain ⟨rfl, rfl, rfl, rfl⟩ := newM_ok e
  refine ⟨Nat.le_succ _, fun m hm => ?_, fun x hx => ?_⟩
  · rw [MapI.get_ne _ _ _ _ (by omega)]; exact t m (by omega)
  · cases List.mem_singleton.1 hx; exact Nat.lt_succ_self _

variable {cx : Cx}

theorem Tidy.loadC {n o k : Nat} : Tidy (loadC n o k : M H (List V)) := by
  unfold Ab.loadC
  repeat' first | with_reducible exact Tidy.fail | with_reducible exact Tidy.lift | with_reducible exact Tidy.get | (with_reducible refine Tidy.bnd ?_ fun _ => ?_) | split
theorem Tidy.storeC {n o : Nat} {vs : List V} : Tidy (storeC n o vs : M H Unit) := by
  unfold Ab.storeC
  repeat' first | with_reducible exact Tidy.fail | with_reducible exact Tidy.set | with_reducible exact Tidy.get | (with_reducible refine Tidy.bnd ?_ fun _ => ?_) | split
theorem Tidy.loadT {t n o : Nat} : Tidy (loadT cx t n o : M H V) := by
  unfold Ab.loadT
  repeat' first | with_reducible exact Tidy.fail | with_reducible exact Tidy.ret | with_reducible exact Tidy.lift | with_reducible exact Tidy.loadC | (with_reducible refine Tidy.bnd ?_ fun _ => ?_) | split
theorem Tidy.storeT {t n o : Nat} {v : V} : Tidy (storeT cx t n o v : M H Unit) := by
  unfold Ab.storeT
  repeat' first | with_reducible exact Tidy.fail | with_reducible exact Tidy.storeC | split
theorem Tidy.asP {v : V} : Tidy (asP v : M H (Nat × Nat)) := by
  unfold Ab.asP
  repeat' first | with_reducible exact Tidy.fail | with_reducible exact Tidy.ret | split
theorem Tidy.eqM {t : Nat} {x y : V} : Tidy (eqM cx t x y : M H Bool) := by
  unfold Ab.eqM
  repeat' first | with_reducible exact Tidy.fail | with_reducible exact Tidy.ret | with_reducible exact Tidy.lift | with_reducible exact Tidy.get | (with_reducible refine Tidy.bnd ?_ fun _ => ?_) | split
theorem Tidy.binM {op : BinOp} {t : Nat} {b : Bool} {x y : V} : Tidy (binM cx op t b x y : M H V) := by
  unfold Ab.binM
  repeat' first | with_reducible exact Tidy.fail | with_reducible exact Tidy.ret | with_reducible exact Tidy.lift | with_reducible exact Tidy.eqM | (with_reducible refine Tidy.bnd ?_ fun _ => ?_) | split
theorem Tidy.buildSliceM {t n : Nat} {ps : List (Nat × V)} : Tidy (buildSliceM cx t n ps : M H V) := by
  unfold Ab.buildSliceM
  repeat' first | with_reducible exact Tidy.fail | with_reducible exact Tidy.ret | with_reducible exact Tidy.lift | with_reducible exact Tidy.new | (with_reducible refine Tidy.bnd ?_ fun _ => ?_) | split
theorem Tidy.makeSliceM {t : Nat} {x y : V} : Tidy (makeSliceM cx t x y : M H V) := by
  unfold Ab.makeSliceM
  repeat' first | with_reducible exact Tidy.fail | with_reducible exact Tidy.ret | with_reducible exact Tidy.lift | with_reducible exact Tidy.new | (with_reducible refine Tidy.bnd ?_ fun _ => ?_) | split
theorem Tidy.sliceM {t : Nat} {x : V} {a b c : Option V} : Tidy (sliceM cx t x a b c : M H V) := by
  unfold Ab.sliceM
  repeat' first | with_reducible exact Tidy.fail | with_reducible exact Tidy.ret | with_reducible exact Tidy.lift | with_reducible exact Tidy.get | (with_reducible refine Tidy.bnd ?_ fun _ => ?_) | split
theorem Tidy.indexAddrM {t : Nat} {x i : V} : Tidy (indexAddrM cx t x i : M H V) := by
  unfold Ab.indexAddrM
  repeat' first | with_reducible exact Tidy.fail | with_reducible exact Tidy.ret | with_reducible exact Tidy.lift | with_reducible exact Tidy.get | (with_reducible refine Tidy.bnd ?_ fun _ => ?_) | split
theorem Tidy.lookupM {t : Nat} {x i : V} {ok : Bool} : Tidy (lookupM cx t x i ok : M H V) := by
  unfold Ab.lookupM
  repeat' first | with_reducible exact Tidy.fail | with_reducible exact Tidy.ret | with_reducible exact Tidy.lift | with_reducible exact Tidy.get | (with_reducible refine Tidy.bnd ?_ fun _ => ?_) | split
theorem Tidy.mapUpdateM {t : Nat} {m k x : V} : Tidy (mapUpdateM cx t m k x : M H V) := by
  unfold Ab.mapUpdateM
  repeat' first | with_reducible exact Tidy.fail | with_reducible exact Tidy.ret | with_reducible exact Tidy.lift | with_reducible exact Tidy.get | with_reducible exact Tidy.set | (with_reducible refine Tidy.bnd ?_ fun _ => ?_) | split
theorem Tidy.mapEntryM {t : Nat} {m k : V} : Tidy (mapEntryM cx t m k : M H V) := by
  unfold Ab.mapEntryM
  repeat' first | with_reducible exact Tidy.fail | with_reducible exact Tidy.ret | with_reducible exact Tidy.lift | with_reducible exact Tidy.get | with_reducible exact Tidy.set | (with_reducible refine Tidy.bnd ?_ fun _ => ?_) | split
theorem Tidy.entryStoreM {m s x : V} : Tidy (entryStoreM m s x : M H V) := by
  unfold Ab.entryStoreM
  repeat' first | with_reducible exact Tidy.fail | with_reducible exact Tidy.ret | with_reducible exact Tidy.lift | with_reducible exact Tidy.get | with_reducible exact Tidy.set | (with_reducible refine Tidy.bnd ?_ fun _ => ?_) | split
theorem Tidy.deleteM {t : Nat} {m k : V} : Tidy (deleteM cx t m k : M H V) := by
  unfold Ab.deleteM
  repeat' first | with_reducible exact Tidy.fail | with_reducible exact Tidy.ret | with_reducible exact Tidy.lift | with_reducible exact Tidy.get | with_reducible exact Tidy.set | (with_reducible refine Tidy.bnd ?_ fun _ => ?_) | split
theorem Tidy.lenM {t : Nat} {x : V} : Tidy (lenM cx t x : M H V) := by
  unfold Ab.lenM
  repeat' first | with_reducible exact Tidy.fail | with_reducible exact Tidy.ret | with_reducible exact Tidy.lift | with_reducible exact Tidy.get | (with_reducible refine Tidy.bnd ?_ fun _ => ?_) | split
theorem Tidy.firstM {k n : Nat} {x : V} : Tidy (firstM k n x : M H (List V)) := by
  unfold Ab.firstM
  repeat' first | with_reducible exact Tidy.fail | with_reducible exact Tidy.ret | with_reducible exact Tidy.loadC | split
theorem Tidy.appendedM {e k : Nat} {xt : Option Nat} {x : V} : Tidy (appendedM cx e k xt x : M H (Nat × List V)) := by
  unfold Ab.appendedM
  repeat' first | with_reducible exact Tidy.fail | with_reducible exact Tidy.ret | with_reducible exact Tidy.lift | with_reducible exact Tidy.firstM | (with_reducible refine Tidy.bnd ?_ fun _ => ?_) | split
theorem Tidy.growM {k n : Nat} {a b : List V} : Tidy (growM k a b n : M H V) := by
  unfold Ab.growM
  repeat' first | with_reducible exact Tidy.ret | with_reducible exact Tidy.new | (with_reducible refine Tidy.bnd ?_ fun _ => ?_)
theorem Tidy.appendM {ts : List Nat} {xs : List V} : Tidy (appendM cx ts xs : M H V) := by
  unfold Ab.appendM
  repeat' first | with_reducible exact Tidy.fail | with_reducible exact Tidy.ret | with_reducible exact Tidy.lift | with_reducible exact Tidy.get | with_reducible exact Tidy.set | with_reducible exact Tidy.new | with_reducible exact Tidy.appendedM | with_reducible exact Tidy.growM | with_reducible exact Tidy.firstM | with_reducible exact Tidy.storeC | (with_reducible refine Tidy.bnd ?_ fun _ => ?_) | split
theorem Tidy.copyM {t : Nat} {d s : V} : Tidy (copyM cx t d s : M H V) := by
  unfold Ab.copyM
  repeat' first | with_reducible exact Tidy.fail | with_reducible exact Tidy.ret | with_reducible exact Tidy.firstM | with_reducible exact Tidy.storeC | (with_reducible refine Tidy.bnd ?_ fun _ => ?_) | split
theorem Tidy.clearM {t : Nat} {x : V} : Tidy (clearM cx t x : M H V) := by
  unfold Ab.clearM
  repeat' first | with_reducible exact Tidy.fail | with_reducible exact Tidy.ret | with_reducible exact Tidy.lift | with_reducible exact Tidy.storeC | (with_reducible refine Tidy.bnd ?_ fun _ => ?_) | split
theorem Tidy.capM {t : Nat} {x : V} : Tidy (capM cx t x : M H V) := by
  unfold Ab.capM
  repeat' first | with_reducible exact Tidy.fail | with_reducible exact Tidy.ret | split
theorem Tidy.builtinM {b : Builtin} {ts : List Nat} {xs : List V} : Tidy (builtinM cx b ts xs : M H V) := by
  unfold Ab.builtinM
  repeat' first | with_reducible exact Tidy.fail | with_reducible exact Tidy.lift | with_reducible exact Tidy.appendM | with_reducible exact Tidy.lenM | with_reducible exact Tidy.copyM | with_reducible exact Tidy.deleteM | with_reducible exact Tidy.clearM | with_reducible exact Tidy.capM | split
theorem Tidy.convertM {s d : Nat} {x : V} : Tidy (convertM cx s d x : M H V) := by
  unfold Ab.convertM
  repeat' first | with_reducible exact Tidy.fail | with_reducible exact Tidy.ret | with_reducible exact Tidy.lift | with_reducible exact Tidy.new | with_reducible exact Tidy.loadC | (with_reducible refine Tidy.bnd ?_ fun _ => ?_) | split
theorem Tidy.assertM {t : Nat} {x : V} {ok : Bool} : Tidy (assertM cx x t ok : M H V) := by
  unfold Ab.assertM
  repeat' first | with_reducible exact Tidy.fail | with_reducible exact Tidy.ret | with_reducible exact Tidy.lift | (with_reducible refine Tidy.bnd ?_ fun _ => ?_) | split

variable {E : Type} [MapI E V] {call : Tgt → List V → M H V}

theorem Tidy.callM (hc : ∀ f xs, Tidy (call f xs)) {e : E} {c : Call} : Tidy (callM cx call e c : M H V) := by
  unfold Ab.callM
  repeat' first | exact hc _ _ | with_reducible exact Tidy.fail | with_reducible exact Tidy.lift | with_reducible exact Tidy.builtinM | (with_reducible refine Tidy.bnd ?_ fun _ => ?_) | split
theorem Tidy.opM (hc : ∀ f xs, Tidy (call f xs)) {e : E} {o : Oper} : Tidy (opM cx call e o : M H V) := by
  unfold Ab.opM
  split
  all_goals (try dsimp only)
  all_goals repeat' first | with_reducible exact Tidy.callM hc | with_reducible exact Tidy.fail | with_reducible exact Tidy.ret | with_reducible exact Tidy.lift | with_reducible exact Tidy.get | with_reducible exact Tidy.set | with_reducible exact Tidy.new | with_reducible exact Tidy.asP | with_reducible exact Tidy.loadT | with_reducible exact Tidy.storeT | with_reducible exact Tidy.binM | with_reducible exact Tidy.buildSliceM | with_reducible exact Tidy.makeSliceM | with_reducible exact Tidy.sliceM | with_reducible exact Tidy.indexAddrM | with_reducible exact Tidy.lookupM | with_reducible exact Tidy.mapUpdateM | with_reducible exact Tidy.mapEntryM | with_reducible exact Tidy.entryStoreM | with_reducible exact Tidy.convertM | with_reducible exact Tidy.assertM | (with_reducible refine Tidy.bnd ?_ fun _ => ?_) | split
theorem Tidy.putE {N : Nat} {e : E} {d : Option Tmp} {v : V} : Tidy (putE N e d v : M H E) := by
  unfold Ab.putE
  repeat' first | with_reducible exact Tidy.fail | with_reducible exact Tidy.ret | split
theorem Tidy.stepOp (hc : ∀ f xs, Tidy (call f xs)) {N : Nat} {ops : List Oper} {o : Oper} {e : E} : Tidy (stepOp cx call N ops o e : M H E) := by
  unfold Ab.stepOp
  split
  · exact Tidy.bnd (Tidy.opM hc) fun _ => Tidy.putE
  · exact Tidy.putE
  · exact Tidy.fail
theorem Tidy.evOps (hc : ∀ f xs, Tidy (call f xs)) {N : Nat} {ops : List Oper} : ∀ {l : List Oper} {e : E}, Tidy (evOps cx call N ops l e : M H E)
  | [], e => by unfold Ab.evOps; exact Tidy.ret
  | o :: l, e => by unfold Ab.evOps; exact Tidy.bnd (Tidy.stepOp hc) fun _ => Tidy.evOps hc
theorem Tidy.evLog (hc : ∀ f xs, Tidy (call f xs)) {N : Nat} {ops : List Oper} : ∀ {l : List Oper} {e : E}, Tidy (evLog cx call N ops l e : M H (E × List (List Acc)))
  | [], e => by unfold Ab.evLog; exact Tidy.ret
  | o :: l, e => by unfold Ab.evLog; exact Tidy.bnd (Tidy.listen (Tidy.stepOp hc)) fun _ => Tidy.bnd (Tidy.evLog hc) fun _ => Tidy.ret
theorem Tidy.evDrawn (hc : ∀ f xs, Tidy (call f xs)) {N : Nat} {ops : List Oper} {e : E} : Tidy (evDrawn cx call N ops e : M H E) := by
  unfold Ab.evDrawn
  refine Tidy.bnd (Tidy.evLog hc) fun _ => ?_
  dsimp only
  split
  · exact Tidy.ret
  · exact Tidy.fail
theorem Tidy.loopM {body : List Nat → E → M H (Out E)} (hb : ∀ ms e, Tidy (body ms e)) : ∀ {n : Nat} {ms : List Nat} {e : E}, Tidy (loopM body n ms e)
  | 0, ms, e => by unfold Ab.loopM; exact Tidy.fail
  | n + 1, ms, e => by
    unfold Ab.loopM
    refine Tidy.bnd (hb _ _) fun r => ?_
    split
    · exact Tidy.loopM hb
    · exact Tidy.ret
theorem Tidy.evCode (hc : ∀ t xs, Tidy (call t xs)) {rd : Bool} {N n : Nat} : ∀ {c : Code} {ms : List Nat} {e : E}, Tidy (evCode cx call rd N n c ms e : M H (Out E))
  | .skip, ms, e => by unfold Ab.evCode; exact Tidy.ret
  | .region _ ops draw, ms, e => by
    unfold Ab.evCode
    refine Tidy.bnd ?_ fun _ => Tidy.ret
    split
    · exact Tidy.evDrawn hc
    · exact Tidy.evOps hc
  | .seq a b, ms, e => by
    unfold Ab.evCode
    refine Tidy.bnd (Tidy.evCode hc) fun _ => ?_
    split
    · exact Tidy.evCode hc
    · exact Tidy.ret
  | .cond c a b, ms, e => by
    unfold Ab.evCode
    refine Tidy.bnd Tidy.lift fun _ => ?_
    split
    · exact Tidy.evCode hc
    · exact Tidy.evCode hc
    · exact Tidy.fail
  | .block id b, ms, e => by
    unfold Ab.evCode
    refine Tidy.bnd (Tidy.evCode hc) fun _ => ?_
    split
    · split
      · exact Tidy.ret
      · exact Tidy.ret
    · exact Tidy.ret
  | .loop b, ms, e => by
    unfold Ab.evCode
    exact Tidy.loopM (fun ms e => Tidy.evCode hc)
  | .exit id, ms, e => by unfold Ab.evCode; exact Tidy.ret
  | .label _, ms, e => by unfold Ab.evCode; exact Tidy.ret
  | .ret, ms, e => by unfold Ab.evCode; exact Tidy.ret
  | .refuse w, _, _ => by unfold Ab.evCode; exact Tidy.fail
  | .scope _, _, _ => by unfold Ab.evCode; exact Tidy.fail
  | .goto _, _, _ => by unfold Ab.evCode; exact Tidy.fail
  | .rangeFunc g ps as bo, ms, e => by
    unfold Ab.evCode
    split
    · exact Tidy.fail
    · refine Tidy.bnd Tidy.lift fun _ => ?_
      split
      · split
        · refine Tidy.bnd Tidy.new fun _ => Tidy.bnd Tidy.new fun _ => Tidy.bnd (hc _ _) fun _ => Tidy.bnd Tidy.get fun _ => ?_
          split
          · exact Tidy.bnd Tidy.set fun _ => Tidy.ret
          · exact Tidy.bnd Tidy.set fun _ => Tidy.ret
          · exact Tidy.fail
        · exact Tidy.fail
      · exact Tidy.fail
theorem Tidy.resM {e : E} : ∀ {l : List ResultVar}, Tidy (resM cx e l : M H (List V))
  | [] => by unfold Ab.resM; exact Tidy.ret
  | .tmp t :: l => by unfold Ab.resM; exact Tidy.bnd Tidy.lift fun _ => Tidy.bnd Tidy.resM fun _ => Tidy.ret
  | .cell a t :: l => by
    unfold Ab.resM
    exact Tidy.bnd Tidy.lift fun _ => Tidy.bnd Tidy.asP fun _ => Tidy.bnd Tidy.loadT fun _ => Tidy.bnd Tidy.resM fun _ => Tidy.ret
theorem Tidy.spendM : ∀ {ms : List Nat}, Tidy (spendM ms : M H Unit)
  | [] => by unfold Ab.spendM; exact Tidy.ret
  | d :: ms => by
    unfold Ab.spendM
    refine Tidy.bnd Tidy.get fun _ => ?_
    split
    · exact Tidy.bnd Tidy.set fun _ => Tidy.spendM
    · exact Tidy.fail
theorem Tidy.bodyM (hc : ∀ t xs, Tidy (call t xs)) {n f : Nat} {xs : List V} : Tidy (bodyM E cx call n f xs : M H V) := by
  unfold Ab.bodyM
  split
  · exact Tidy.fail
  · split
    · exact Tidy.fail
    · split
      · refine Tidy.bnd (Tidy.evCode hc) fun _ => ?_
        split
        · exact Tidy.fail
        · exact Tidy.bnd Tidy.spendM fun _ => Tidy.bnd Tidy.resM fun _ => Tidy.ret
      · exact Tidy.fail
theorem Tidy.roundM (hc : ∀ t xs, Tidy (call t xs)) {n l : Nat} {xs : List V} : Tidy (roundM E cx call n l xs : M H V) := by
  unfold Ab.roundM
  refine Tidy.bnd Tidy.get fun _ => ?_
  split
  · split
    · refine Tidy.bnd (Tidy.evCode hc) fun _ => ?_
      split
      · refine Tidy.bnd Tidy.get fun _ => ?_
        split
        · refine Tidy.bnd Tidy.set fun _ => Tidy.bnd (Tidy.evCode hc) fun r => ?_
          dsimp only
          refine Tidy.bnd Tidy.get fun _ => ?_
          split
          · split
            · exact Tidy.bnd Tidy.set fun _ => Tidy.ret
            · exact Tidy.bnd Tidy.set fun _ => Tidy.ret
          · exact Tidy.fail
        · exact Tidy.fail
      · exact Tidy.fail
    · exact Tidy.fail
  · exact Tidy.fail
theorem Tidy.evFn {prim : Nat → Option ((Tgt → List V → M H V) → List V → M H V)} (hp : ∀ f m call xs, prim f = some m → (∀ t xs, Tidy (call t xs)) → Tidy (m call xs)) :
    ∀ {n : Nat} {t : Tgt} {xs : List V}, Tidy (evFn E cx prim n t xs : M H V)
  | 0, t, xs => by unfold Ab.evFn; exact Tidy.fail
  | n + 1, .fn f, xs => by
    unfold Ab.evFn
    split
    · next h => exact hp _ _ _ _ h fun t xs => Tidy.evFn hp
    · exact Tidy.bodyM fun t xs => Tidy.evFn hp
  | n + 1, .yl l, xs => by
    unfold Ab.evFn
    exact Tidy.roundM fun t xs => Tidy.evFn hp
end
end Go.Ab
