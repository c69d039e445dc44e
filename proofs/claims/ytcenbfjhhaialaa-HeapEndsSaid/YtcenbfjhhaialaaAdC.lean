/- A function without parameters that the evaluator runs to 'true' on an empty heap answers 'true' on any: as a 'prim'. -/
import Derived.Test.YtcenbfjhhaialaaAdL0
import Derived.Test.YtcenbfjhhaialaaAd4
import Derived.Test.YtcenbfjhhaialaaAd5
set_option linter.unusedVariables false
set_option linter.unusedSectionVars false
set_option linter.unusedSimpArgs false
set_option linter.unnecessarySimpa false
namespace Go.Ab
open Go.RowKit Go.ChangeShapes Go.WideShapes

section
variable {H : Type} [MapI H AObj] {P : Program}

theorem Rel.carry {ng : Nat} {w0 w w' : World} {φ : Nm} {h : H} (r : Rel ng w0 φ h w) (k : Below w.heap.size w w') : Rel ng w0 φ h w' where
  below := r.below.trans (k.mono r.below.size)
  obj n o hn := by
    obtain ⟨L, h1, h2, h3⟩ := r.obj n o hn
    refine ⟨L, h1, ?_, h3⟩
    cases hg : o.gone with
    | true => cases o <;> first | (cases hg; done) | trivial
    | false => rw [k.block _ (r.lt hn hg h1)]; exact h2
  apart := r.apart
  glob := r.glob

theorem shutPrim_ok (F : Fit P) {n f : Nat} {fn : Func} {code : Code} (hP : P.funcs[f]? = some fn) (hb : fn.body = some code)
    (hrun : isTrue (evFn (H := Tr AObj) (Tr V) (cxOf P) (fun _ => none) n (.fn f) [] MapI.emp 0) = true) (w0 : World) : PrimOk P 0 w0 f (shutPrim (H := H)) where
  ok call hc hl xs h c v h' c' l φ w xs' hr r hx hf := by
    cases hx with
    | nil =>
      obtain ⟨rfl, rfl, rfl, _⟩ := ret_ok hr
      obtain ⟨h1, c1, l1, h2⟩ := isTrue_ok hrun
      have a := evFn_ok F.cx rfl F.mixed F.good (fun _ _ h => by cases h) n (.fn f) [] MapI.emp 0 _ _ _ _ _ w [] h2 (Rel.start w) .nil (fun _ _ _ => rfl)
      have cl := a.calls hP (F.name hP) hb
      refine .inl ⟨cl.1, cl.2.mono fun e w' ⟨u, he, φ', _, _, hrel, hv⟩ => ?_⟩
      cases hv
      exact ⟨_, he, φ, .refl _ _ _, Nat.le_refl _, r.carry hrel.below, .bool _⟩
    | cons _ _ => exact (fail_ok (h := h) (c := c) hr).elim
  loc call xs hl := shutPrim_local
/-- What the evaluator answers of the arguments as data, the model's call returns: with functions that stand as 'prim'. -/
theorem law_callsP {T : Type} {enc : TypeId × Value → T} {W : World} (F : Fit P) (K : Kids P (· < P.types.size)) {S : List Nat} (hS : plainAll P S = true) {prim : Nat → Option ((Tgt → List V → M (FM AObj) V) → List V → M (FM AObj) V)} (hprim : ∀ w f m, prim f = some m → PrimOk P 0 w f m)
    {f : Nat} {fn : Func} {code : Code} (hP : P.funcs[f]? = some fn) (hb : fn.body = some code)
    {ts : List Nat} {vs : List Value} {ds : List (DataW T)} {ps : List MemPlace} (hT : ∀ t ∈ ts, t ∈ S) (hv : ∀ (j : Nat) t v, ts[j]? = some t → vs[j]? = some v → ∃ r b, Value.okWide P W r b t v) (hA : DataW.TrodAll enc P W 0 (fun _ => true) true ts vs ds ps)
    (hrun : ∀ (h : FM AObj) (c : Nat) (xs : List V), ArgsR P h c ts xs ds → WpX (fun n => evFn (FM V) (cxOf P) prim n (.fn f) xs) h c fun v _ _ _ => v = .bool true) :
    Calls P f ⟨vs⟩ W fun e w' => e = .returned (.bool true) ∧ Below W.heap.size W w' := by
  obtain ⟨φ, h, c, xs, _, i, r, a⟩ := args_in K hS hT hv hA _ _ _ (Stand.start W)
  obtain ⟨v, h', c', l, rfl, k, hk⟩ := hrun h c xs a
  have := evFn_ok F.cx rfl F.mixed F.good (hprim W) k (.fn f) xs h c _ _ _ _ _ W vs (hk k (Nat.le_refl _)) i.rel r (fun n hn _ => i.nm n hn)
  refine (this.calls hP (F.name hP) hb).2.mono fun e w' ⟨u, he, φ', _, _, hrel, hv⟩ => ?_
  cases hv
  exact ⟨he, hrel.below⟩
/-- A list of such functions. -/
theorem shutPrims_ok (F : Fit P) {l : List Nat} (hl : ∀ f ∈ l, ∃ (n : Nat) (fn : Func) (code : Code), P.funcs[f]? = some fn ∧ fn.body = some code ∧ isTrue (evFn (H := Tr AObj) (Tr V) (cxOf P) (fun _ => none) n (.fn f) [] MapI.emp 0) = true) :
    ∀ w f m, shutPrims (H := H) l f = some m → PrimOk P 0 w f m := fun w f m hm => by
  unfold shutPrims at hm
  split at hm
  · next hc =>
    cases hm
    obtain ⟨n, fn, code, h1, h2, h3⟩ := hl f (by simpa using hc)
    exact shutPrim_ok F h1 h2 h3 w
  · cases hm
end
end Go.Ab
