/- A function that the abstract evaluator answers with 'true' returns true and turns nothing that was there; a row's step out of that. -/
import Derived.Test.YtcenbfjhhaialaaAc19
import Derived.Test.YtcenbfjhhaialaaAcTr
import Derived.ChangeSame
set_option linter.unusedVariables false
set_option linter.unusedSectionVars false
set_option linter.unusedSimpArgs false
set_option linter.unnecessarySimpa false
namespace Go.Ab
open Go.RowKit

def isTrue {H : Type} : Res H V → Bool
  | .ok (.bool b) _ _ _ => b
  | _ => false
theorem isTrue_ok {H : Type} {r : Res H V} (h : isTrue r = true) : ∃ h' c l, r = .ok (.bool true) h' c l := by
  cases r with
  | err e => cases h
  | ok v h' c l =>
    cases v <;> try (cases h; done)
    rename_i b
    have : b = true := h
    subst this
    exact ⟨_, _, _, rfl⟩

section
variable {H E : Type} [MapI H AObj] [MapI E V] {P : Program} {cx : Cx}

/-- The empty heap stands for any world: nothing in it has a name. -/
theorem Rel.start (w : World) : Rel 0 w (fun _ => none) (MapI.emp : H) w :=
  ⟨.refl _ _, fun n o h => (by rw [MapI.get_emp] at h; cases h), fun n m o p L K _ h => (by rw [MapI.get_emp] at h; cases h), fun g hg => (by omega)⟩

theorem closed_ok (hcx : CxOk P cx) (hng : cx.ng = 0) (hmix : P.follows .mixedOrders = true) (hgood : ∀ f fn c, cx.fn f = some fn → fn.body = some c → goodCode c = true)
    {prim : Nat → Option ((Tgt → List V → M H V) → List V → M H V)} (hprim : ∀ w f m, prim f = some m → PrimOk P 0 w f m) {n f : Nat} {fn : Func} {code : Code} (hP : P.funcs[f]? = some fn)
    (hname : (fn.name == "runtime.NumGoroutine") = false) (hb : fn.body = some code) (hrun : isTrue (evFn E cx prim n (.fn f) [] (MapI.emp : H) 0) = true) (w : World) :
    Calls P f #[] w fun e w' => e = .returned (.bool true) ∧ Below w.heap.size w w' := by
  obtain ⟨h', c', l, hr⟩ := isTrue_ok hrun
  have := evFn_ok hcx hng hmix hgood (hprim w) n (.fn f) [] MapI.emp 0 _ _ _ _ _ w [] hr (Rel.start w) .nil (fun _ _ _ => rfl)
  refine (this.calls hP hname hb).2.mono fun e w' ⟨u, he, φ', _, _, hrel, hv⟩ => ?_
  cases hv
  exact ⟨he, hrel.below⟩
end

/-- The evaluator's view of a program. -/
def cxOf (P : Program) : Cx := { fn := fun f => P.funcs[f]?, ty := fun t => P.info? t, ng := 0, eqOk := fun t => !P.stoodInHeld t && !P.eqGuardType P.depth t }

/-- What the kernel is asked of a program, once. -/
structure Fit (P : Program) : Prop where
  names : (P.funcs.toList.all fun f => !(f.name == "runtime.NumGoroutine")) = true
  goods : (P.funcs.toList.all fun f => match f.body with | some c => goodCode c | none => true) = true
  mixed : P.follows .mixedOrders = true

theorem Fit.name {P : Program} (F : Fit P) {f : Nat} {x : Func} (h : P.funcs[f]? = some x) : (x.name == "runtime.NumGoroutine") = false := by
  have := List.all_eq_true.1 F.names x (by simpa using Array.mem_of_getElem? h)
  simpa using this
theorem Fit.cx {P : Program} (F : Fit P) : CxOk P (cxOf P) where
  fn _ _ h := ⟨h, F.name h⟩
  ty _ _ h := h
  eqOk t h := by
    have h : (!P.stoodInHeld t && !P.eqGuardType P.depth t) = true := h
    simpa using h
theorem Fit.good {P : Program} (F : Fit P) (f : Nat) (fn : Func) (c : Code) (h : (cxOf P).fn f = some fn) (hb : fn.body = some c) : goodCode c = true := by
  have h : P.funcs[f]? = some fn := h
  have := List.all_eq_true.1 F.goods fn (by simpa using Array.mem_of_getElem? h)
  simpa only [hb] using this
/-- A closed call, by the evaluator alone. -/
theorem Fit.run {P : Program} (F : Fit P) {n f : Nat} {fn : Func} {code : Code} (hP : P.funcs[f]? = some fn) (hb : fn.body = some code)
    (hrun : isTrue (evFn (H := Tr AObj) (Tr V) (cxOf P) (fun _ => none) n (.fn f) [] MapI.emp 0) = true) (w : World) :
    Calls P f #[] w fun e w' => e = .returned (.bool true) ∧ Below w.heap.size w w' :=
  closed_ok F.cx rfl F.mixed F.good (fun _ _ _ h => by cases h) hP (F.name hP) hb hrun w

open Go.WideShapes Go.ChangeShapes in
/-- A call that turned nothing of what was there: its row's post-condition. -/
theorem post_below {H : Type} {enc : TypeId × Value → H} {P : Program} {f : Func} {s : ChangeSpec} {apart fresh handsOn again : Bool} {W W' : World} {args : Array Value} {v : Value} {ds gs : List (DataW H)} {before pa pv : List MemPlace}
    (hW : DataW.Whole enc P f.params.toList s.vars apart W args.toList ds gs before)
    (hres : ∀ (b : Nat) (sp : Nat → Bool) (hd : Bool), DataW.TrodAll enc P W' b sp hd f.resultTypes.toList (v.resultList f.resultTypes.size) (s.fn H (ds ++ gs)).results [])
    (hargs : ∀ sp : Nat → Bool, (∀ p ∈ before, sp p.block = true) → DataW.TrodAll enc P W' 0 sp true f.params.toList args.toList (s.fn H (ds ++ gs)).args pa)
    (hvars : ∀ sp : Nat → Bool, (∀ p ∈ before, sp p.block = true) → DataW.TrodVars enc P W' sp s.vars (s.fn H (ds ++ gs)).vars pv)
    (hps : before = pa ++ pv) (hk : Below W.heap.size W W')
    (hok : ∀ (j : Nat) (t : TypeId) (r : Value), f.resultTypes[j]? = some t → (v.resultList f.resultTypes.size)[j]? = some r → Value.okWide P W' .any 0 t r) :
    s.post enc P f apart fresh handsOn again W args v W' := by
  have hlt := hW.lt
  have hold : ∀ p ∈ before, (fun b => decide (b < W.heap.size)) p.block = true := fun p hp => by simpa using hlt p hp
  refine ⟨ds, gs, before, [], pa, pv, hW, hres _ _ _, hargs _ hold, hvars _ hold, World.keptBut_mono (fun p hp => ⟨hp, ?_⟩) (hk.frame (· ∈ before)), fun _ => ?_⟩
  · rw [hps, List.mem_append] at hp
    exact Or.inr hp
  · obtain ⟨_, _, _, _, _, hz, hn⟩ := hW
    refine ⟨hok, _, _, ([] ++ pa) ++ pv, ⟨[] ++ pa, pv, trodAll_append (hargs _ (fun _ _ => rfl)) (hres _ _ _), hvars _ (fun _ _ => rfl), rfl, ?_, ?_⟩, ?_⟩
    · intro b off hp
      have hp' : MemPlace.cell b off ∈ before := by rw [hps]; simpa using hp
      have hb := hlt _ hp'
      rw [hk.frozen (p := ⟨b, off, none⟩) hb]
      exact hz b off hp'
    · intro ha
      have := hn ha
      rw [hps] at this
      simpa using this
    · intro p hp _
      rw [hps]
      simpa using hp
end Go.Ab
