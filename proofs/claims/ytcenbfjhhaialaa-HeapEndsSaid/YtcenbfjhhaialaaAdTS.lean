/- The calculus: bounds of what a call touches. -/
import Derived.Test.YtcenbfjhhaialaaAdT
import Derived.Test.YtcenbfjhhaialaaAd2
import Derived.Test.YtcenbfjhhaialaaAdC
set_option linter.unusedVariables false
set_option linter.unusedSectionVars false
set_option linter.unusedSimpArgs false
set_option linter.unnecessarySimpa false
namespace Go.Proofs.Ytcenbfjhhaialaa
open Go.Ab Go.RowKit Go.ChangeShapes Go.WideShapes

theorem Tidy.sortedPrim {H : Type} [MapI H AObj] {gs : List Nat} {call : Tgt → List V → M H V} {xs : List V} : Tidy (sortedPrim gs call xs : M H V) := by
  unfold Go.Ab.sortedPrim
  repeat' first | with_reducible exact Tidy.fail | with_reducible exact Tidy.ret | with_reducible exact Tidy.get | with_reducible exact Tidy.new | (with_reducible refine Tidy.bnd ?_ fun _ => ?_) | split
theorem Tidy.keysM {H : Type} [MapI H AObj] {n : Nat} : ∀ {vs : List V}, Tidy (keysM n vs : M H (List ((Nat × Nat) × Int)))
  | [] => Tidy.ret
  | v :: vs => by
    unfold Go.Ab.keysM
    have : Tidy (Go.Ab.keysM n vs : M H (List ((Nat × Nat) × Int))) := Tidy.keysM
    repeat' first | exact this | with_reducible exact Tidy.fail | with_reducible exact Tidy.ret | with_reducible exact Tidy.get | (with_reducible refine Tidy.bnd ?_ fun _ => ?_) | split
theorem Tidy.cmpPrim {H : Type} [MapI H AObj] {gs : List Nat} {call : Tgt → List V → M H V} {xs : List V} : Tidy (cmpPrim gs call xs : M H V) := by
  unfold Go.Ab.cmpPrim
  repeat' first | exact Tidy.keysM | with_reducible exact Tidy.fail | with_reducible exact Tidy.ret | with_reducible exact Tidy.get | with_reducible exact Tidy.set | (with_reducible refine Tidy.bnd ?_ fun _ => ?_) | split
theorem tidy_cl {f : Nat} {xs : List V} {n : Nat} : Tidy (cl f xs n) := Tidy.evFn fun f m call xs hm hc => by
  have hm : seatPrims shutFns sortFns cmpFns f = some m := hm
  unfold seatPrims at hm
  split at hm
  · cases hm; exact Tidy.sortedPrim
  · split at hm
    · cases hm; exact Tidy.cmpPrim
    · unfold shutPrims at hm
      split at hm
      · cases hm
        cases xs with
        | nil => exact Tidy.ret
        | cons _ _ => exact Tidy.fail
      · cases hm
theorem Clear.set {h : HH} {c n : Nat} {x : AObj} (t : Clear h c) (hn : n < c) : Clear (MapI.set h n x) c := fun m hm => by rw [MapI.get_ne _ _ _ _ (by omega)]; exact t m hm
theorem Clear.new {h : HH} {c : Nat} {x : AObj} (t : Clear h c) : Clear (MapI.set h c x) (c + 1) := fun m hm => by rw [MapI.get_ne _ _ _ _ (by omega)]; exact t m (by omega)
theorem Does.tidy {f : Nat} {xs : List V} {h : HH} {c : Nat} {ns : List Nat} {Q : V → HH → Nat → Prop} (w : Does f xs h c ns Q) (t : Clear h c) :
    WpX (cl f xs) h c fun v h' c' l => (∀ x ∈ l, InL ns c x ∧ x.name < c') ∧ Clear h' c' ∧ c ≤ c' ∧ (∀ n, n < c → n ∉ ns → MapI.get h' n = MapI.get h n) ∧ Q v h' c' := by
  obtain ⟨a, h', c', l, ⟨q1, q2, q3, q4⟩, k, hk⟩ := w
  obtain ⟨_, t2, t3⟩ := tidy_cl _ _ _ _ _ _ (hk k (Nat.le_refl _)) t
  exact ⟨a, h', c', l, ⟨fun x hx => ⟨q1 x hx, t3 x hx⟩, t2, q2, q3, q4⟩, k, hk⟩
/-- At a call in a drawn region, from a clear heap: what it touched is kept, with its bound. -/
theorem call_atT {f : Nat} {args : Array Operand} {ats : Array Nat} {xs : List V} {e : EE} {h : HH} {c c0 : Nat} {ns ms : List Nat} {Q : V → HH → Nat → Prop} {K : V → HH → Nat → List Acc → Prop} {ds : Option Tmp} {ty : Nat} {pos : String} {af : Array Edge} {gd : Option (Nat × Bool)}
    (ha : evs cx e args.toList = some xs) (w : Does f xs h c ns Q) (t : Clear h c) (h1 : ∀ n ∈ ns, n ∈ ms ∨ c0 ≤ n) (h2 : c0 ≤ c)
    (k : ∀ v h' c' al, (∀ x ∈ al, InL ns c x ∧ x.name < c') → Clear h' c' → c ≤ c' → (∀ n, n < c → n ∉ ns → MapI.get h' n = MapI.get h n) → Q v h' c' → K v h' c' al) :
    WpX (fun n => opM cx (evFn EE cx pr n) e ⟨ds, .call ⟨.value (.func f), args, ats⟩, ty, pos, af, gd⟩) h c fun v h' c' al => (∀ x ∈ al, InL ms c0 x) ∧ K v h' c' al :=
  op_call (call := fun n => evFn EE cx pr n) ha (WpX.mono (w.tidy t) fun v h' c' l ⟨a, b, d, e, q⟩ => ⟨fun x hx => inL_sub h1 h2 (a x hx).1, k v h' c' l a b d e q⟩)
/-- As law_callsP: the arguments' heap is clear. -/
theorem law_callsT {P : Program} {T : Type} {enc : TypeId × Value → T} {W : World} (F : Fit P) (K : Kids P (· < P.types.size)) {S : List Nat} (hS : plainAll P S = true) {prim : Nat → Option ((Tgt → List V → M (FM AObj) V) → List V → M (FM AObj) V)} (hprim : ∀ w f m, prim f = some m → PrimOk P 0 w f m)
    {f : Nat} {fn : Func} {code : Code} (hP : P.funcs[f]? = some fn) (hb : fn.body = some code)
    {ts : List Nat} {vs : List Value} {ds : List (DataW T)} {ps : List MemPlace} (hT : ∀ t ∈ ts, t ∈ S) (hv : ∀ (j : Nat) t v, ts[j]? = some t → vs[j]? = some v → ∃ r b, Value.okWide P W r b t v) (hA : DataW.TrodAll enc P W 0 (fun _ => true) true ts vs ds ps)
    (hrun : ∀ (h : FM AObj) (c : Nat) (xs : List V), ArgsR P h c ts xs ds → Clear h c → WpX (fun n => evFn (FM V) (cxOf P) prim n (.fn f) xs) h c fun v _ _ _ => v = .bool true) :
    Calls P f ⟨vs⟩ W fun e w' => e = .returned (.bool true) ∧ Below W.heap.size W w' := by
  obtain ⟨φ, h, c, xs, _, i, r, a⟩ := args_in K hS hT hv hA _ _ _ (Stand.start W)
  have t : Clear h c := fun n hn => by
    cases hg : MapI.get h n with
    | none => rfl
    | some o =>
      obtain ⟨L, hL, _⟩ := i.rel.obj n o hg
      rw [i.nm n hn] at hL; cases hL
  obtain ⟨v, h', c', l, rfl, k, hk⟩ := hrun h c xs a t
  have := evFn_ok F.cx rfl F.mixed F.good (hprim W) k (.fn f) xs h c _ _ _ _ _ W vs (hk k (Nat.le_refl _)) i.rel r (fun n hn _ => i.nm n hn)
  refine (this.calls hP (F.name hP) hb).2.mono fun e w' ⟨u, he, φ', _, _, hrel, hv⟩ => ?_
  cases hv
  exact ⟨he, hrel.below⟩
end Go.Proofs.Ytcenbfjhhaialaa
