/- The abstract evaluator against the model: code, functions. -/
import Derived.Test.YtedojncbegcdnaaAb18
import Derived.LoopN
set_option linter.unusedVariables false
set_option linter.unusedSectionVars false
set_option linter.unusedSimpArgs false
set_option linter.unnecessarySimpa false
namespace Go.Ab
open Go.RowKit

/-- Every region that draws its order is one whose operations are tied where they share temporaries. -/
def goodCode : Code → Bool
  | .region _ ops draw => !draw || regOk ops.toList
  | .seq a b => goodCode a && goodCode b
  | .cond _ a b => goodCode a && goodCode b
  | .block _ b => goodCode b
  | .loop b => goodCode b
  | _ => true

def exOf : Ex → Exit
  | .normal => .normal
  | .exit i => .exit i
  | .ret => .ret

section
variable {H E : Type} [MapI H AObj] [MapI E V] {P : Program} {ng : Nat} {w0 : World} {cx : Cx} {call : Nat → List V → M H V}

/-- Where a run of code has come to. -/
def Lands (ng : Nat) (w0 : World) (N : Nat) (φ : Nm) (a : Act) (c c' : Nat) (h' : H) (e' : E) (K : Act → World → Prop) : Prop :=
  ∀ φ' a' w', Ext φ φ' c c' → Rel ng w0 φ' h' w' → ER φ' e' a'.tmps → a'.tmps.size = N → a'.defers = a.defers → K a' w'

theorem Fresh.sub {φ : Nm} {a b a' b' : Nat} (h : Fresh φ a b) (h1 : a ≤ a') (h2 : b' ≤ b) : Fresh φ a' b' := fun n x y => h n (by omega) (by omega)
theorem Fresh.ext {φ φ' : Nm} {a b c : Nat} (h : Fresh φ a c) (hx : Ext φ φ' a b) (hab : a ≤ b) : Fresh φ' b c := fun n h1 h2 => by
  cases h3 : φ' n with
  | none => rfl
  | some L =>
    have := hx.only n (by rw [h n (by omega) h2, h3]; exact fun e => by cases e)
    omega

theorem evOps_ok (hcx : CxOk P cx) (hng : cx.ng = ng) (hcall : CallOk P ng w0 call) (hloc : ∀ f xs, Local (call f xs)) {N : Nat} {ops : Array Oper} {Q : Exit → Act → World → Prop} :
    ∀ {l : List Oper} {k : Nat} {e e' : E} {h h' : H} {c c' : Nat} {al : List Acc} {φ : Nm} {a : Act} {w : World}, ops.toList.drop k = l → evOps cx call N ops.toList l e h c = .ok e' h' c' al →
      ER φ e a.tmps → a.tmps.size = N → Rel ng w0 φ h w → Fresh φ c c' → Lands ng w0 N φ a c c' h' e' (Q .normal) → wpOps P ops Q (List.range' k l.length) a w
  | [], k, e, e', h, h', c, c', al, φ, a, w, hl, hrun, he, hs, r, hf, hQ => by
    unfold evOps at hrun
    obtain ⟨rfl, rfl, rfl, _⟩ := ret_ok hrun
    exact hQ φ a w (Ext.refl _ _ _) r he hs rfl
  | o :: l, k, e, e', h, h', c, c', al, φ, a, w, hl, hrun, he, hs, r, hf, hQ => by
    unfold evOps at hrun
    obtain ⟨e1, h1, c1, l1, l2, x1, x2, _⟩ := bnd_ok hrun
    have hc1 := (Local.stepOp hloc _ _ _ _ _ _ x1).1
    have hc2 := (Local.evOps hloc _ _ _ _ _ _ x2).1
    have ho : ops.toList[k]? = some o := by
      have := congrArg (·[0]?) hl
      simp only [List.getElem?_drop, Nat.add_zero, List.getElem?_cons_zero] at this
      exact this
    have hl' : ops.toList.drop (k + 1) = l := by rw [← List.tail_drop, hl]; rfl
    obtain ⟨hd, v, rfl, hcase⟩ := stepOp_ok x1
    have go : ∀ φ' u w', Ext φ φ' c c1 → Rel ng w0 φ' h1 w' → VR φ' v u → wpOps P ops Q (List.range' (k + 1) l.length) (a.put o.dst u) w' := fun φ' u w' k1 k2 k3 =>
      evOps_ok hcx hng hcall hloc hl' x2 (ER.put (he.mono k1.mono) hs hd k3) (by rw [put_size]; exact hs) k2 (hf.ext k1 hc1) fun φ'' a'' w'' m1 m2 m3 m4 m5 =>
        hQ φ'' a'' w'' (k1.trans m1 hc1 hc2) m2 m3 m4 (by rw [m5, put_defers])
    have ho' : ops[k]? = some o := by simpa using ho
    rw [List.length_cons, List.range'_succ]
    unfold wpOps
    simp only [ho']
    rcases hcase with ⟨hw, hop⟩ | ⟨hw, rfl, rfl, rfl, _⟩
    · rw [wanted_ok he hw]
      simp only [if_true]
      exact .inl (opM_ok hcx hng hcall he r hop (hf.sub (Nat.le_refl _) hc2) fun φ' u w' k1 k2 k3 k4 => go φ' u w' k1 k3 k4)
    · rw [wanted_ok he hw]
      simp only [Bool.false_eq_true, if_false]
      exact go φ _ w (Ext.refl _ _ _) r (.tuple .nil)

theorem loopM_ok {N : Nat} {Q : Exit → Act → World → Prop} {b : Code} {body : E → M H (Ex × E)} (hloc : ∀ e, Local (body e))
    (hb : ∀ {ex : Ex} {e e' : E} {h h' : H} {c c' : Nat} {al : List Acc} {φ : Nm} {a : Act} {w : World} {Q : Exit → Act → World → Prop}, body e h c = .ok (ex, e') h' c' al →
      ER φ e a.tmps → a.tmps.size = N → Rel ng w0 φ h w → Fresh φ c c' → Lands ng w0 N φ a c c' h' e' (Q (exOf ex)) → b.wp P Q a w) :
    ∀ {n : Nat} {ex : Ex} {e e' : E} {h h' : H} {c c' : Nat} {al : List Acc} {φ : Nm} {a : Act} {w : World}, loopM body n e h c = .ok (ex, e') h' c' al →
      ER φ e a.tmps → a.tmps.size = N → Rel ng w0 φ h w → Fresh φ c c' → Lands ng w0 N φ a c c' h' e' (Q (exOf ex)) → Code.rounds P b Q n a w
  | 0, ex, e, e', h, h', c, c', al, φ, a, w, hrun, _, _, _, _, _ => by unfold loopM at hrun; exact (fail_ok hrun).elim
  | n + 1, ex, e, e', h, h', c, c', al, φ, a, w, hrun, he, hs, r, hf, hQ => by
    unfold loopM at hrun
    obtain ⟨⟨ex1, e1⟩, h1, c1, l1, l2, x1, x2, _⟩ := bnd_ok hrun
    have hc1 := (hloc _ _ _ _ _ _ _ x1).1
    rw [rounds_succ]
    cases ex1 with
    | normal =>
      simp only at x2
      have hc2 := (Local.loopM hloc _ _ _ _ _ _ x2).1
      refine hb x1 he hs r (hf.sub (Nat.le_refl _) hc2) fun φ' a' w' k1 k2 k3 k4 k5 => ?_
      exact loopM_ok hloc hb x2 k3 k4 k2 (hf.ext k1 hc1) fun φ'' a'' w'' m1 m2 m3 m4 m5 => hQ φ'' a'' w'' (k1.trans m1 hc1 hc2) m2 m3 m4 (by rw [m5, k5])
    | exit i =>
      simp only at x2
      obtain ⟨hr, rfl, rfl, _⟩ := ret_ok x2
      cases hr
      exact hb x1 he hs r hf hQ
    | ret =>
      simp only at x2
      obtain ⟨hr, rfl, rfl, _⟩ := ret_ok x2
      cases hr
      exact hb x1 he hs r hf hQ

theorem evCode_ok (hcx : CxOk P cx) (hng : cx.ng = ng) (hcall : CallOk P ng w0 call) (hloc : ∀ f xs, Local (call f xs)) (hmix : P.follows .mixedOrders = true) {N n : Nat} :
    ∀ {code : Code} {ex : Ex} {e e' : E} {h h' : H} {c c' : Nat} {al : List Acc} {φ : Nm} {a : Act} {w : World} {Q : Exit → Act → World → Prop}, goodCode code = true →
      evCode cx call N n code e h c = .ok (ex, e') h' c' al → ER φ e a.tmps → a.tmps.size = N → Rel ng w0 φ h w → Fresh φ c c' → Lands ng w0 N φ a c c' h' e' (Q (exOf ex)) → code.wp P Q a w
  | .skip, ex, e, e', h, h', c, c', al, φ, a, w, Q, hg, hrun, he, hs, r, hf, hQ => by
    unfold evCode at hrun
    obtain ⟨hr, rfl, rfl, _⟩ := ret_ok hrun
    cases hr
    exact wp_skip (hQ φ a w (Ext.refl _ _ _) r he hs rfl)
  | .label _, ex, e, e', h, h', c, c', al, φ, a, w, Q, hg, hrun, he, hs, r, hf, hQ => by
    unfold evCode at hrun
    obtain ⟨hr, rfl, rfl, _⟩ := ret_ok hrun
    cases hr
    exact wp_label (hQ φ a w (Ext.refl _ _ _) r he hs rfl)
  | .exit id, ex, e, e', h, h', c, c', al, φ, a, w, Q, hg, hrun, he, hs, r, hf, hQ => by
    unfold evCode at hrun
    obtain ⟨hr, rfl, rfl, _⟩ := ret_ok hrun
    cases hr
    exact wp_exit (hQ φ a w (Ext.refl _ _ _) r he hs rfl)
  | .ret, ex, e, e', h, h', c, c', al, φ, a, w, Q, hg, hrun, he, hs, r, hf, hQ => by
    unfold evCode at hrun
    obtain ⟨hr, rfl, rfl, _⟩ := ret_ok hrun
    cases hr
    exact wp_ret (hQ φ a w (Ext.refl _ _ _) r he hs rfl)
  | .refuse w1, ex, e, e', h, h', c, c', al, φ, a, w, Q, hg, hrun, _, _, _, _, _ => by unfold evCode at hrun; exact (fail_ok hrun).elim
  | .scope _, ex, e, e', h, h', c, c', al, φ, a, w, Q, hg, hrun, _, _, _, _, _ => by unfold evCode at hrun; exact (fail_ok hrun).elim
  | .goto _, ex, e, e', h, h', c, c', al, φ, a, w, Q, hg, hrun, _, _, _, _, _ => by unfold evCode at hrun; exact (fail_ok hrun).elim
  | .rangeFunc _ _ _ _, ex, e, e', h, h', c, c', al, φ, a, w, Q, hg, hrun, _, _, _, _, _ => by unfold evCode at hrun; exact (fail_ok hrun).elim
  | .region id ops draw, ex, e, e', h, h', c, c', al, φ, a, w, Q, hg, hrun, he, hs, r, hf, hQ => by
    unfold evCode at hrun
    obtain ⟨e1, h1, c1, l1, l2, x1, x2, _⟩ := bnd_ok hrun
    obtain ⟨hr, rfl, rfl, _⟩ := ret_ok x2
    cases hr
    cases draw with
    | true =>
      simp only [if_true] at x1
      exact evDrawn_ok hcx hng hcall hloc hmix (by simpa [goodCode] using hg) he hs r x1 hf hQ
    | false =>
      simp only [Bool.false_eq_true, if_false] at x1
      refine wp_region ?_
      rw [List.range_eq_range']
      have := evOps_ok hcx hng hcall hloc (ops := ops) (k := 0) rfl x1 he hs r hf hQ
      simpa using this
  | .seq x y, ex, e, e', h, h', c, c', al, φ, a, w, Q, hg, hrun, he, hs, r, hf, hQ => by
    unfold evCode at hrun
    unfold goodCode at hg
    rw [Bool.and_eq_true] at hg
    obtain ⟨⟨ex1, e1⟩, h1, c1, l1, l2, x1, x2, _⟩ := bnd_ok hrun
    have hc1 := (Local.evCode hloc _ _ _ _ _ _ x1).1
    refine wp_seq ?_
    cases ex1 with
    | normal =>
      simp only at x2
      have hc2 := (Local.evCode hloc _ _ _ _ _ _ x2).1
      refine evCode_ok hcx hng hcall hloc hmix hg.1 x1 he hs r (hf.sub (Nat.le_refl _) hc2) fun φ' a' w' k1 k2 k3 k4 k5 => ?_
      exact evCode_ok hcx hng hcall hloc hmix hg.2 x2 k3 k4 k2 (hf.ext k1 hc1) fun φ'' a'' w'' m1 m2 m3 m4 m5 => hQ φ'' a'' w'' (k1.trans m1 hc1 hc2) m2 m3 m4 (by rw [m5, k5])
    | exit i =>
      simp only at x2
      obtain ⟨hr, rfl, rfl, _⟩ := ret_ok x2
      cases hr
      exact evCode_ok hcx hng hcall hloc hmix hg.1 x1 he hs r hf hQ
    | ret =>
      simp only at x2
      obtain ⟨hr, rfl, rfl, _⟩ := ret_ok x2
      cases hr
      exact evCode_ok hcx hng hcall hloc hmix hg.1 x1 he hs r hf hQ
  | .cond x p q, ex, e, e', h, h', c, c', al, φ, a, w, Q, hg, hrun, he, hs, r, hf, hQ => by
    unfold evCode at hrun
    unfold goodCode at hg
    rw [Bool.and_eq_true] at hg
    obtain ⟨v, h1, c1, l1, l2, x1, x2, _⟩ := bnd_ok hrun
    obtain ⟨hv, rfl, rfl, _⟩ := lift_ok x1
    have hvr := ev1_ok he r hng hv
    generalize hce : a.eval x = u at hvr
    cases hvr <;> try exact (fail_ok x2).elim
    rename_i b
    cases b with
    | true => exact wp_cond_true hce (evCode_ok hcx hng hcall hloc hmix hg.1 x2 he hs r hf hQ)
    | false => exact wp_cond_false hce (evCode_ok hcx hng hcall hloc hmix hg.2 x2 he hs r hf hQ)
  | .block id b, ex, e, e', h, h', c, c', al, φ, a, w, Q, hg, hrun, he, hs, r, hf, hQ => by
    unfold evCode at hrun
    unfold goodCode at hg
    obtain ⟨⟨ex1, e1⟩, h1, c1, l1, l2, x1, x2, _⟩ := bnd_ok hrun
    refine wp_block ?_
    cases ex1 with
    | normal =>
      simp only at x2
      obtain ⟨hr, rfl, rfl, _⟩ := ret_ok x2
      cases hr
      exact evCode_ok hcx hng hcall hloc hmix hg x1 he hs r hf hQ
    | ret =>
      simp only at x2
      obtain ⟨hr, rfl, rfl, _⟩ := ret_ok x2
      cases hr
      exact evCode_ok hcx hng hcall hloc hmix hg x1 he hs r hf hQ
    | exit i =>
      simp only at x2
      split at x2
      · next hi =>
        obtain ⟨hr, rfl, rfl, _⟩ := ret_ok x2
        cases hr
        refine evCode_ok hcx hng hcall hloc hmix hg x1 he hs r hf fun φ' a' w' k1 k2 k3 k4 k5 => ?_
        simp only [exOf, Exit.inBlock, hi, if_true]
        exact hQ φ' a' w' k1 k2 k3 k4 k5
      · next hi =>
        obtain ⟨hr, rfl, rfl, _⟩ := ret_ok x2
        cases hr
        refine evCode_ok hcx hng hcall hloc hmix hg x1 he hs r hf fun φ' a' w' k1 k2 k3 k4 k5 => ?_
        simp only [exOf, Exit.inBlock, hi, if_false]
        exact hQ φ' a' w' k1 k2 k3 k4 k5
  | .loop b, ex, e, e', h, h', c, c', al, φ, a, w, Q, hg, hrun, he, hs, r, hf, hQ => by
    unfold evCode at hrun
    unfold goodCode at hg
    exact wp_loop_rounds n (loopM_ok (fun e => Local.evCode hloc) (fun x1 he hs r hf hQ => evCode_ok hcx hng hcall hloc hmix hg x1 he hs r hf hQ) hrun he hs r hf hQ)

/-! ## Functions -/

theorem initE_ok {φ : Nm} : ∀ {vs : List V} {us : List Value} {i : Nat} {e : E} {ts : Array Value}, VRs φ vs us → ER φ e ts → (∀ k, k < us.length → ts[i + k]? = us[k]?) → ER φ (initE vs i e) ts
  | [], us, i, e, ts, hv, he, ht => he
  | v :: vs, us, i, e, ts, hv, he, ht => by
    obtain ⟨u, us, rfl, h1, h2⟩ := hv.inv
    unfold initE
    refine initE_ok h2 (fun t x hx => ?_) fun k hk => ?_
    · by_cases h : i = t
      · subst h
        rw [MapI.get_same] at hx; cases hx
        exact ⟨u, by have := ht 0 (by simp); simpa using this, h1⟩
      · rw [MapI.get_ne _ _ _ _ h] at hx
        exact he t x hx
    · have := ht (k + 1) (by simpa using hk)
      rw [show i + 1 + k = i + (k + 1) by omega, this]; rfl

def resOp (ts : Array Value) : ResultVar → Sem Value
  | .tmp t => pure (ts.getD t undef)
  | .cell a t => do loadVar t (← asAddr (ts.getD a undef))
theorem results_eq (fn : Func) (ts : Array Value) : results fn ts = (do let vs ← fn.results.mapM (resOp ts); pure (if h : vs.size = 1 then vs[0] else .tuple vs)) := rfl

theorem resM_ok (hcx : CxOk P cx) {φ : Nm} {h h' : H} {c c' : Nat} {e : E} {w : World} {ts : Array Value} (he : ER φ e ts) (r : Rel ng w0 φ h w) :
    ∀ {l : List ResultVar} {vs : List V} {al : List Acc}, resM cx e l h c = .ok vs h' c' al → h' = h ∧ c' = c ∧ ∃ us, VRs φ vs us ∧
      (l.mapM (resOp ts)).run P w = .ok us w
  | [], vs, al, hrun => by
    unfold resM at hrun
    obtain ⟨rfl, rfl, rfl, _⟩ := ret_ok hrun
    exact ⟨rfl, rfl, [], .nil, rfl⟩
  | .tmp t :: l, vs, al, hrun => by
    unfold resM at hrun
    obtain ⟨v, h1, c1, l1, l2, x1, x2, _⟩ := bnd_ok hrun
    obtain ⟨hv, hh, hcc, _⟩ := lift_ok x1
    rw [hh, hcc] at x2
    obtain ⟨ws, h2, c2, l3, l4, x3, x4, _⟩ := bnd_ok x2
    obtain ⟨rfl, hh, hcc, _⟩ := ret_ok x4
    rw [hh, hcc]
    obtain ⟨rfl, rfl, us, hus, hr⟩ := resM_ok hcx he r x3
    obtain ⟨u, hu, huv⟩ := he t v hv
    refine ⟨rfl, rfl, u :: us, .cons huv hus, ?_⟩
    have : ts.getD t undef = u := by simp [Array.getD_eq_getD_getElem?, hu]
    simp only [List.mapM_cons, resOp, Sem.run_bind, Sem.run_pure, Result.andThen_ok, hr, this]
  | .cell a t :: l, vs, al, hrun => by
    unfold resM at hrun
    obtain ⟨v, h1, c1, l1, l2, x1, x2, _⟩ := bnd_ok hrun
    obtain ⟨hv, hh, hcc, _⟩ := lift_ok x1
    rw [hh, hcc] at x2
    obtain ⟨p, h2, c2, l3, l4, y1, y2, _⟩ := bnd_ok x2
    obtain ⟨rfl, hh2, hcc2⟩ := asP_ok y1
    rw [hh2, hcc2] at y2
    obtain ⟨n, o⟩ := p
    obtain ⟨v2, h3, c3, l5, l6, z1, z2, _⟩ := bnd_ok y2
    obtain ⟨hh3, hcc3, L, u2, hL, hu2, hr2⟩ := loadT_ok (P := P) hcx r z1
    rw [hh3, hcc3] at z2
    obtain ⟨ws, h4, c4, l7, l8, x3, x4, _⟩ := bnd_ok z2
    obtain ⟨rfl, hh4, hcc4, _⟩ := ret_ok x4
    rw [hh4, hcc4]
    obtain ⟨rfl, rfl, us, hus, hr⟩ := resM_ok hcx he r x3
    obtain ⟨u, hu, huv⟩ := he a _ hv
    obtain ⟨K, hK, rfl⟩ := ptr_inv huv
    rw [hL] at hK; cases hK
    refine ⟨rfl, rfl, u2 :: us, .cons hu2 hus, ?_⟩
    have : ts.getD a undef = .pointer (some ⟨L.blk, L.off + o, none⟩) := by simp [Array.getD_eq_getD_getElem?, hu]
    simp only [List.mapM_cons, resOp, Sem.run_bind, Sem.run_pure, Result.andThen_ok, hr, this, asAddr, hr2]

theorem results_ok (hcx : CxOk P cx) {φ : Nm} {h h' : H} {c c' : Nat} {e : E} {w : World} {ts : Array Value} (he : ER φ e ts) (r : Rel ng w0 φ h w) {fn : Func} {vs : List V} {al : List Acc}
    (hrun : resM cx e fn.results.toList h c = .ok vs h' c' al) : h' = h ∧ c' = c ∧ ∃ u, VR φ (tup vs) u ∧ (results fn ts).run P w = .ok u w := by
  obtain ⟨hh, hcc, us, hus, hr⟩ := resM_ok hcx he r hrun
  have hlen := hus.length
  refine ⟨hh, hcc, if h : (⟨us⟩ : Array Value).size = 1 then (⟨us⟩ : Array Value)[0] else .tuple ⟨us⟩, ?_, ?_⟩
  · cases hus with
    | nil => exact .tuple .nil
    | cons h1 h2 =>
      cases h2 with
      | nil => exact h1
      | cons h3 h4 => simp [tup]; exact .tuple (.cons h1 (.cons h3 h4))
  · rw [results_eq, Array.mapM_eq_mapM_toList]
    simp only [map_eq_pure_bind, bind_assoc, pure_bind, Sem.run_bind]
    rw [hr]
    simp only [Result.andThen_ok, Sem.run_pure]

/-- What stands in for a function's text. -/
structure PrimOk (P : Program) (ng : Nat) (w0 : World) (f : Nat) (m : List V → M H V) : Prop where
  ok : ∀ xs h c v h' c' l φ w xs', m xs h c = .ok v h' c' l → Rel ng w0 φ h w → VRs φ xs xs' → Fresh φ c c' →
    Answers P f ⟨xs'⟩ w fun u w' => ∃ φ', Ext φ φ' c c' ∧ c ≤ c' ∧ Rel ng w0 φ' h' w' ∧ VR φ' v u
  loc : ∀ xs, Local (m xs)

theorem bodyM_ok (hcx : CxOk P cx) (hng : cx.ng = ng) (hcall : CallOk P ng w0 call) (hloc : ∀ f xs, Local (call f xs)) (hmix : P.follows .mixedOrders = true)
    (hgood : ∀ f fn c, cx.fn f = some fn → fn.body = some c → goodCode c = true) {n f : Nat} {xs : List V} {h h' : H} {c c' : Nat} {v : V} {l : List Acc} {φ : Nm} {w : World} {xs' : List Value}
    (hrun : bodyM E cx call n f xs h c = .ok v h' c' l) (r : Rel ng w0 φ h w) (hx : VRs φ xs xs') (hf : Fresh φ c c') :
    Answers P f ⟨xs'⟩ w fun u w' => ∃ φ', Ext φ φ' c c' ∧ c ≤ c' ∧ Rel ng w0 φ' h' w' ∧ VR φ' v u := by
  have hc := (Local.bodyM hloc _ _ _ _ _ _ hrun).1
  unfold bodyM at hrun
  cases hfn : cx.fn f with
  | none => rw [hfn] at hrun; exact (fail_ok hrun).elim
  | some fn =>
    simp only [hfn] at hrun
    cases hb : fn.body with
    | none => simp only [hb] at hrun; exact (fail_ok hrun).elim
    | some code =>
      simp only [hb] at hrun
      split at hrun
      · next hle =>
        obtain ⟨hP, hname⟩ := hcx.fn _ _ hfn
        obtain ⟨⟨ex, e1⟩, h1, c1, l1, l2, x1, x2, _⟩ := bnd_ok hrun
        have fin : ∀ {φ' : Nm} {a' : Act} {w' : World}, Ext φ φ' c c1 → Rel ng w0 φ' h1 w' → ER φ' e1 a'.tmps → (bnd (resM cx e1 fn.results.toList) fun vs => ret (tup vs)) h1 c1 = .ok v h' c' l2 → a'.defers = [] →
            a'.defers = [] ∧ ∃ u, (results fn a'.tmps).run P w' = .ok u w' ∧ ∃ u', Ending.returned u = .returned u' ∧ ∃ φ', Ext φ φ' c c' ∧ c ≤ c' ∧ Rel ng w0 φ' h' w' ∧ VR φ' v u' := by
          intro φ' a' w' k1 k2 k3 x2 hd
          obtain ⟨vs, h2, c2, l3, l4, x3, x4, _⟩ := bnd_ok x2
          obtain ⟨rfl, hh, hcc, _⟩ := ret_ok x4
          rw [hh, hcc]
          obtain ⟨hh, hcc, u, hu, hr⟩ := results_ok (P := P) hcx k3 k2 x3
          rw [hh, hcc]
          refine ⟨hd, u, hr, u, rfl, φ', k1, ?_, k2, hu⟩
          have := (Local.evCode hloc _ _ _ _ _ _ x1).1
          exact this
        refine .inl ⟨?_, calls_of_wp hP hb ?_⟩
        · simp only [callFunc, Sem.run_bind, run_program, Result.andThen_ok, hP, hname, hb]; rfl
        · have hlen := hx.length
          have hc1 : c1 ≤ c' := by
            cases ex with
            | exit i => exact (fail_ok x2).elim
            | normal => exact (Local.bnd Local.resM (fun _ => Local.ret) _ _ _ _ _ _ x2).1
            | ret => exact (Local.bnd Local.resM (fun _ => Local.ret) _ _ _ _ _ _ x2).1
          refine evCode_ok hcx hng hcall hloc hmix (hgood _ _ _ hfn hb) x1 (initE_ok hx (fun t x hx => by rw [MapI.get_emp] at hx; cases hx) fun k hk => ?_) ?_ r (hf.sub (Nat.le_refl _) hc1) fun φ' a' w' k1 k2 k3 k4 k5 => ?_
          · rw [Nat.zero_add, Array.getElem?_append_left (by simpa using hk)]; simp
          · simp; omega
          · cases ex with
            | exit i => exact (fail_ok x2).elim
            | normal => exact fin k1 k2 k3 x2 k5
            | ret => exact fin k1 k2 k3 x2 k5
      · exact (fail_ok hrun).elim

theorem evFn_ok (hcx : CxOk P cx) (hng : cx.ng = ng) (hmix : P.follows .mixedOrders = true) (hgood : ∀ f fn c, cx.fn f = some fn → fn.body = some c → goodCode c = true)
    {prim : Nat → Option (List V → M H V)} (hprim : ∀ f m, prim f = some m → PrimOk P ng w0 f m) : ∀ n, CallOk P ng w0 (evFn E cx prim n)
  | 0 => fun f xs h c v h' c' l φ w xs' hrun r hx hf => by unfold evFn at hrun; exact (fail_ok hrun).elim
  | n + 1 => fun f xs h c v h' c' l φ w xs' hrun r hx hf => by
    unfold evFn at hrun
    cases hp : prim f with
    | some m =>
      rw [hp] at hrun
      exact (hprim f m hp).ok _ _ _ _ _ _ _ _ _ _ hrun r hx hf
    | none =>
      rw [hp] at hrun
      exact bodyM_ok hcx hng (evFn_ok hcx hng hmix hgood hprim n) (fun f xs => Local.evFn fun f m xs hm => (hprim f m hm).loc xs) hmix hgood hrun r hx hf
end
end Go.Ab
