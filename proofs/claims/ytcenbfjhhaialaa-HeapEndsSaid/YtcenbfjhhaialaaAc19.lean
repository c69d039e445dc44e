/- The abstract evaluator against the model: code, functions. -/
import Derived.Test.YtcenbfjhhaialaaAc18
import Derived.LoopNIn
import Derived.RangeFuncLeaves
import Derived.RangeFuncRecord
set_option linter.unusedVariables false
set_option linter.unusedSectionVars false
set_option linter.unusedSimpArgs false
set_option linter.unnecessarySimpa false
namespace Go.Ab
open Go.RowKit

def exOf : Ex → Exit
  | .normal => .normal
  | .exit i => .exit i
  | .ret => .ret

section
variable {H E : Type} [MapI H AObj] [MapI E V] {P : Program} {ng : Nat} {w0 : World} {cx : Cx} {call : Tgt → List V → M H V} {ro : Option Nat}

/-- The marks that stand in a frame. -/
inductive MarksR (φ : Nm) : List Nat → List Deferred → Prop where
  | nil : MarksR φ [] []
  | cons {n : Nat} {L : Loc} {ms : List Nat} {ds : List Deferred} : φ n = some L → MarksR φ ms ds → MarksR φ (n :: ms) ({ target := .collected L.blk, args := #[] } :: ds)
theorem MarksR.mono {φ φ' : Nm} (h : ∀ n L, φ n = some L → φ' n = some L) {ms : List Nat} {ds : List Deferred} (r : MarksR φ ms ds) : MarksR φ' ms ds := by
  induction r with
  | nil => exact .nil
  | cons a _ ih => exact .cons (h _ _ a) ih

/-- Where a run of code has come to. -/
def Lands (ng : Nat) (w0 : World) (N : Nat) (φ : Nm) (c c' : Nat) (h' : H) (e' : E) (ms' : List Nat) (K : Act → World → Prop) : Prop :=
  ∀ φ' a' w', Ext φ φ' c c' → Rel ng w0 φ' h' w' → ER φ' e' a'.tmps → a'.tmps.size = N → MarksR φ' ms' a'.defers → K a' w'

theorem Fresh.sub {φ : Nm} {a b a' b' : Nat} (h : Fresh φ a b) (h1 : a ≤ a') (h2 : b' ≤ b) : Fresh φ a' b' := fun n x y => h n (by omega) (by omega)
theorem Fresh.ext {φ φ' : Nm} {a b c : Nat} (h : Fresh φ a c) (hx : Ext φ φ' a b) (hab : a ≤ b) : Fresh φ' b c := fun n h1 h2 => by
  cases h3 : φ' n with
  | none => rfl
  | some L =>
    have := hx.only n (by rw [h n (by omega) h2, h3]; exact fun e => by cases e)
    omega

theorem evOps_ok (hcx : CxOk P cx) (hng : cx.ng = ng) (hcall : CallOk P ng w0 call) (hloc : ∀ t xs, Local (call t xs)) {N : Nat} {ops : Array Oper} {Q : Exit → Act → World → Prop} :
    ∀ {l : List Oper} {k : Nat} {e e' : E} {h h' : H} {c c' : Nat} {al : List Acc} {φ : Nm} {a : Act} {w : World} {ms : List Nat}, ops.toList.drop k = l → evOps cx call N ops.toList l e h c = .ok e' h' c' al →
      ER φ e a.tmps → a.tmps.size = N → MarksR φ ms a.defers → Rel ng w0 φ h w → Fresh φ c c' → Lands ng w0 N φ c c' h' e' ms (Q .normal) → wpOpsIn (fe ro) 0 P ops Q (List.range' k l.length) a w
  | [], k, e, e', h, h', c, c', al, φ, a, w, ms, hl, hrun, he, hs, hm, r, hf, hQ => by
    unfold evOps at hrun
    obtain ⟨rfl, rfl, rfl, _⟩ := ret_ok hrun
    exact hQ φ a w (Ext.refl _ _ _) r he hs hm
  | o :: l, k, e, e', h, h', c, c', al, φ, a, w, ms, hl, hrun, he, hs, hm, r, hf, hQ => by
    unfold evOps at hrun
    obtain ⟨e1, h1, c1, l1, l2, x1, x2, _⟩ := bnd_ok hrun
    have hc1 := (Local.stepOp hloc _ _ _ _ _ _ x1).1
    have hc2 := (Local.evOps hloc _ _ _ _ _ _ x2).1
    have ho : ops.toList[k]? = some o := by
      have := congrArg (·[0]?) hl
      simp only [List.getElem?_drop, Nat.add_zero, List.getElem?_cons_zero] at this
      exact this
    have hl' : ops.toList.drop (k + 1) = l := by rw [← List.tail_drop, hl]; rfl
    obtain ⟨hd, v, rfl, hcase⟩ := stepOp_ok x1
    have go : ∀ φ' u w', Ext φ φ' c c1 → Rel ng w0 φ' h1 w' → VR φ' v u → wpOpsIn (fe ro) 0 P ops Q (List.range' (k + 1) l.length) (a.put o.dst u) w' := fun φ' u w' k1 k2 k3 =>
      evOps_ok hcx hng hcall hloc hl' x2 (ER.put (he.mono k1.mono) hs hd k3) (by rw [put_size]; exact hs) (by rw [put_defers]; exact hm.mono k1.mono) k2 (hf.ext k1 hc1) fun φ'' a'' w'' m1 m2 m3 m4 m5 =>
        hQ φ'' a'' w'' (k1.trans m1 hc1 hc2) m2 m3 m4 m5
    have ho' : ops[k]? = some o := by simpa using ho
    rw [List.length_cons, List.range'_succ]
    unfold wpOpsIn
    simp only [ho']
    rcases hcase with ⟨hw, hop⟩ | ⟨hw, rfl, rfl, rfl, _⟩
    · rw [wanted_ok he hw]
      simp only [if_true]
      exact opM_ok hcx hng hcall he r hop (hf.sub (Nat.le_refl _) hc2) fun φ' u w' k1 k2 k3 k4 => go φ' u w' k1 k3 k4
    · rw [wanted_ok he hw]
      simp only [Bool.false_eq_true, if_false]
      exact ⟨fun _ _ => trivial, go φ _ w (Ext.refl _ _ _) r (.tuple .nil)⟩

theorem loopM_ok {N : Nat} {Q : Exit → Act → World → Prop} {b : Code} {body : List Nat → E → M H (Out E)} (hloc : ∀ ms e, Local (body ms e))
    (hb : ∀ {ex : Ex} {e e' : E} {ms ms' : List Nat} {h h' : H} {c c' : Nat} {al : List Acc} {φ : Nm} {a : Act} {w : World} {Q : Exit → Act → World → Prop}, body ms e h c = .ok (ex, e', ms') h' c' al →
      ER φ e a.tmps → a.tmps.size = N → MarksR φ ms a.defers → Rel ng w0 φ h w → Fresh φ c c' → Lands ng w0 N φ c c' h' e' ms' (Q (exOf ex)) → b.wpIn (fe ro) 0 P Q a w) :
    ∀ {n : Nat} {ex : Ex} {e e' : E} {ms ms' : List Nat} {h h' : H} {c c' : Nat} {al : List Acc} {φ : Nm} {a : Act} {w : World}, loopM body n ms e h c = .ok (ex, e', ms') h' c' al →
      ER φ e a.tmps → a.tmps.size = N → MarksR φ ms a.defers → Rel ng w0 φ h w → Fresh φ c c' → Lands ng w0 N φ c c' h' e' ms' (Q (exOf ex)) → Code.roundsIn (fe ro) 0 P b Q n a w
  | 0, ex, e, e', ms, ms', h, h', c, c', al, φ, a, w, hrun, _, _, _, _, _, _ => by unfold loopM at hrun; exact (fail_ok hrun).elim
  | n + 1, ex, e, e', ms, ms', h, h', c, c', al, φ, a, w, hrun, he, hs, hm, r, hf, hQ => by
    unfold loopM at hrun
    obtain ⟨⟨ex1, e1, ms1⟩, h1, c1, l1, l2, x1, x2, _⟩ := bnd_ok hrun
    have hc1 := (hloc _ _ _ _ _ _ _ _ x1).1
    rw [roundsIn_succ]
    cases ex1 with
    | normal =>
      simp only at x2
      have hc2 := (Local.loopM hloc _ _ _ _ _ _ x2).1
      refine hb x1 he hs hm r (hf.sub (Nat.le_refl _) hc2) fun φ' a' w' k1 k2 k3 k4 k5 => ?_
      exact loopM_ok hloc hb x2 k3 k4 k5 k2 (hf.ext k1 hc1) fun φ'' a'' w'' m1 m2 m3 m4 m5 => hQ φ'' a'' w'' (k1.trans m1 hc1 hc2) m2 m3 m4 m5
    | exit i =>
      simp only at x2
      obtain ⟨hr, rfl, rfl, _⟩ := ret_ok x2
      cases hr
      exact hb x1 he hs hm r hf hQ
    | ret =>
      simp only at x2
      obtain ⟨hr, rfl, rfl, _⟩ := ret_ok x2
      cases hr
      exact hb x1 he hs hm r hf hQ

theorem known_ok {φ : Nm} {e : E} {ts : Array Value} (he : ER φ e ts) : ∀ n, KnownR φ (known e n) ts
  | 0 => fun t v hv => by cases hv
  | n + 1 => fun t v hv => by
    unfold known at hv
    split at hv
    · next x hx =>
      rcases List.mem_cons.1 hv with h | h
      · cases h; exact he _ _ hx
      · exact known_ok he n t v h
    · exact known_ok he n t v hv

theorem bodied_ok (hcx : CxOk P cx) {f : Nat} (h : bodied cx f = true) : ∃ fn c, P.funcs[f]? = some fn ∧ (fn.name == "runtime.NumGoroutine") = false ∧ fn.body = some c := by
  unfold bodied at h
  cases hf : cx.fn f with
  | none => rw [hf] at h; cases h
  | some fn =>
    rw [hf] at h
    obtain ⟨h1, h2⟩ := hcx.fn _ _ hf
    cases hb : fn.body with
    | none => simp only [hb] at h; cases h
    | some c => exact ⟨fn, c, h1, h2, hb⟩

theorem Answers.calls {φ : Nm} {f : Nat} {xs : Array Value} {w : World} {R : Value → World → Prop} {fn : Func} {code : Code} (hP : P.funcs[f]? = some fn) (hname : (fn.name == "runtime.NumGoroutine") = false)
    (hb : fn.body = some code) (h : Answers P φ (.fn f) xs w R) : (callFunc f xs).run P w = .ok (.enter f xs) w ∧ Calls P f xs w fun e w' => ∃ u, e = .returned u ∧ R u w' := by
  have hc : (callFunc f xs).run P w = .ok (.enter f xs) w := by
    simp only [callFunc, Sem.run_bind, run_program, Result.andThen_ok, hP, hname, hb]; rfl
  rcases h with h | ⟨u, w', h, _⟩
  · exact h
  · rw [hc] at h; cases h

theorem rangeFunc_ok (hcx : CxOk P cx) (hng : cx.ng = ng) (hcall : CallOk P ng w0 call) (hloc : ∀ t xs, Local (call t xs)) {N n : Nat} {g : Operand} {ps : Array Tmp} {as bo : Code}
    {ex : Ex} {e e' : E} {ms ms' : List Nat} {h h' : H} {c c' : Nat} {al : List Acc} {φ : Nm} {a : Act} {w : World} {Q : Exit → Act → World → Prop}
    (hgo : goodCode (.rangeFunc g ps as bo) = true) (hrun : evCode cx call false N n (.rangeFunc g ps as bo) ms e h c = .ok (ex, e', ms') h' c' al) (he : ER φ e a.tmps) (hs : a.tmps.size = N) (hm : MarksR φ ms a.defers) (r : Rel ng w0 φ h w)
    (hf : Fresh φ c c') (hQ : Lands ng w0 N φ c c' h' e' ms' (Q (exOf ex))) : (Code.rangeFunc g ps as bo).wpIn (fe none) 0 P Q a w := by
  have hgo' : goodCode as = true ∧ goodCode bo = true := by unfold goodCode at hgo; simpa using hgo
  unfold evCode at hrun
  simp only [Bool.false_eq_true, if_false] at hrun
  obtain ⟨v, h1, c1, l1, l2, x1, x2, _⟩ := bnd_ok hrun
  obtain ⟨hv, rfl, rfl, _⟩ := lift_ok x1
  have hvr := ev1_ok he r hng hv
  cases v <;> try exact (fail_ok x2).elim
  rename_i fn first cap
  cases fn <;> try exact (fail_ok x2).elim
  cases first <;> try exact (fail_ok x2).elim
  rename_i gf
  simp only at x2
  split at x2
  · next hbod =>
    obtain ⟨fnn, code, hP, hname, hbody⟩ := bodied_ok hcx hbod
    obtain ⟨d, h2, c2, l3, l4, x3, x4, _⟩ := bnd_ok x2
    obtain ⟨rfl, rfl, rfl, _⟩ := newM_ok x3
    obtain ⟨l, h3, c3, l5, l6, x5, x6, _⟩ := bnd_ok x4
    obtain ⟨rfl, rfl, rfl, _⟩ := newM_ok x5
    obtain ⟨rv, h4, c4, l7, l8, x7, x8, _⟩ := bnd_ok x6
    obtain ⟨ob, h5, c5, l9, l10, x9, x10, _⟩ := bnd_ok x8
    obtain ⟨hg, rfl, rfl, _⟩ := getM_ok x9
    have hc4 := (hloc _ _ _ _ _ _ _ _ x7).1
    have hc5 : c5 ≤ c' := by
      cases ob <;> try exact (fail_ok x10).elim
      rename_i st d' N' es' ps' as' bo'
      cases st <;> try exact (fail_ok x10).elim
      · exact (Local.bnd Local.set (fun _ => Local.ret) _ _ _ _ _ _ x10).1
      · exact (Local.bnd Local.set (fun _ => Local.ret) _ _ _ _ _ _ x10).1
    generalize hce : a.eval g = gu at hvr
    cases hvr with | func hfirst hcap => ?_
    rename_i first' cap'
    cases hfirst
    -- the two blocks
    have hd0 := hf d (Nat.le_refl _) (by omega)
    let L1 : Loc := ⟨w.heap.size, 0, 0⟩
    let L2 : Loc := ⟨w.heap.size + 1, 0, 0⟩
    have r1 := r.alloc (b := .deferred (some [])) (L := L1) (o := .defs) hd0 rfl rfl rfl
    have hl0 : (φ.put d L1) (d + 1) = none := by
      have := hf (d + 1) (by omega) (by omega)
      unfold Nm.put; rw [if_neg (by omega)]; exact this
    have hsz1 : (w.alloc (.deferred (some []))).heap.size = w.heap.size + 1 := by rw [World.size_alloc]
    have hx1 : Ext φ (φ.put d L1) d (d + 1) := Ext.put L1 hd0
    have hx2 : Ext (φ.put d L1) ((φ.put d L1).put (d + 1) L2) (d + 1) (d + 1 + 1) := Ext.put L2 hl0
    refine wpIn_rangeFunc fun fn _ => ?_
    have r2 := r1.alloc (b := .loop { state := .ready, pending := none, fn, tmps := a.tmps, params := ps, assign := as, body := bo, defers := w.heap.size }) (L := L2) (o := .loop .ready d N (known e N) ps.toList as bo) hl0
      hsz1.symm rfl ⟨rfl, _, rfl, rfl, rfl, hs, known_ok (he.mono fun n L e => hx2.mono _ _ (hx1.mono _ _ e)) N, rfl, rfl, rfl, hgo'.1, hgo'.2⟩
    have hput : ((φ.put d L1).put (d + 1) L2) (d + 1) = some L2 := put_get
    have hargs : VRs ((φ.put d L1).put (d + 1) L2) (.yld (d + 1) :: cap) (.func (.yield L2.blk) #[] #[] :: cap') := .cons (.yld hput) (hcap.mono fun n L e => hx2.mono _ _ (hx1.mono _ _ e))
    have hx12 : Ext φ ((φ.put d L1).put (d + 1) L2) d (d + 1 + 1) := hx1.trans hx2 (by omega) (by omega)
    have hf2 : Fresh ((φ.put d L1).put (d + 1) L2) (d + 1 + 1) c' := hf.ext hx12 (by omega)
    have hans := hcall _ _ _ _ _ _ _ _ _ _ _ x7 r2 hargs (hf2.sub (Nat.le_refl _) hc5)
    obtain ⟨hent, hcalls⟩ := Answers.calls hP hname hbody hans
    refine ⟨w.heap.size + 1, [{ target := .collected w.heap.size, args := #[] }], _, { target := .fn (.func gf) ⟨cap'⟩, args := #[.func (.yield (w.heap.size + 1)) #[] #[]] }, ((w.alloc (.deferred (some []))).alloc (.loop { state := .ready, pending := none, fn, tmps := a.tmps, params := ps, assign := as, body := bo, defers := w.heap.size })), gf,
      ⟨.func (.yield (w.heap.size + 1)) #[] #[] :: cap'⟩, _, run_enterLoop_outer _ _ _ _ _, ?_, fun _ _ => trivial, ?_, fun h => (by cases h), callsIn_fe.2 (hcalls.mono fun e3 w3 ⟨u, he3, φ3, k1, k2, k3, k4⟩ => ?_)⟩
    · simp only [rangeCall, resolve, hce]
      simp [go_sem]
    · have e9 : (#[Value.func (.yield (w.heap.size + 1)) #[] #[]] ++ (⟨cap'⟩ : Array Value)) = ⟨.func (.yield (w.heap.size + 1)) #[] #[] :: cap'⟩ := by apply Array.ext'; simp
      have hent' := hent
      simp only [invoke, e9]
      simp only [callFunc, Sem.run_bind, run_program, Result.andThen_ok, hP, hname, hbody]; rfl
    · subst he3
      have hx3 : Ext φ φ3 d c5 := hx12.trans k1 (by omega) k2
      have hL2 := k1.mono _ _ hput
      obtain ⟨K, hK, hob, hwr⟩ := k3.obj _ _ hg
      clear hwr
      rw [hL2] at hK; cases hK
      have fin : ∀ (d' N' : Nat) (es' : List (Nat × V)) (ps' : List Nat) (as' bo' : Code) (st : LSt) (q : Loop), ob = .loop st d' N' es' ps' as' bo' → ObjR φ3 (.loop st d' N' es' ps' as' bo') L2 w3.heap[L2.blk]? →
          w3.heap[L2.blk]? = some (.loop q) → q.state ≠ .busy →
          Rel ng w0 φ3 (MapI.set h5 (d + 1) (.loop .over d' N' es' ps' as' bo')) (w3.putObj (w.heap.size + 1) (.loop { q with state := .exhausted })) := by
        intro d' N' es' ps' as' bo' st q hob' hor hq _
        subst hob'
        obtain ⟨ho, q', hb', _, _, t1, t2, t3, t4, t5⟩ := hor
        rw [hq] at hb'; cases hb'
        exact k3.setBlk hg rfl hL2 rfl ⟨ho, _, rfl, rfl, trivial, t1, t2, t3, t4, t5⟩
      cases ob <;> try exact (fail_ok x10).elim
      case loop st d' N' es' ps' as' bo' =>
        obtain ⟨ho, q, hb, hst, hpe, hrest⟩ := hob
        have hob2 : ObjR φ3 (.loop st d' N' es' ps' as' bo') L2 w3.heap[L2.blk]? := ⟨ho, q, hb, hst, hpe, hrest⟩
        have hb' : w3.heap[w.heap.size + 1]? = some (.loop q) := hb
        cases st <;> try exact (fail_ok x10).elim
        case ready =>
          simp only at x10
          obtain ⟨_, h6, c6, l11, l12, y1, y2, _⟩ := bnd_ok x10
          obtain ⟨_, rfl, rfl, _⟩ := setM_ok y1
          obtain ⟨hr, rfl, rfl, _⟩ := ret_ok y2
          cases hr
          have hnb : q.state ≠ .busy := by rw [hst]; exact fun e => by cases e
          have hpe : q.pending = none := hpe
          refine ⟨none, _, by rw [← hpe]; exact run_endLoop hb' hnb, ?_⟩
          exact hQ φ3 _ _ (hx3.wide (Nat.le_refl _) hc5) (fin _ _ _ _ _ _ _ q rfl hob2 hb hnb) (he.mono hx3.mono) hs (.cons (k1.mono _ _ (hx2.mono _ _ put_get)) (hm.mono hx3.mono))
        case done j =>
          simp only at x10
          obtain ⟨_, h6, c6, l11, l12, y1, y2, _⟩ := bnd_ok x10
          obtain ⟨_, rfl, rfl, _⟩ := setM_ok y1
          obtain ⟨hr, rfl, rfl, _⟩ := ret_ok y2
          cases hr
          have hnb : q.state ≠ .busy := by rw [hst]; exact fun e => by cases e
          have hpe : q.pending = some (codeOf ex) := hpe
          refine ⟨some (codeOf ex), _, by rw [← hpe]; exact run_endLoop hb' hnb, ?_⟩
          have hq := hQ φ3 { a with defers := [{ target := .collected w.heap.size, args := #[] }] ++ a.defers } _ (hx3.wide (Nat.le_refl _) hc5) (fin _ _ _ _ _ _ _ q rfl hob2 hb hnb) (he.mono hx3.mono) hs
            (.cons (k1.mono _ _ (hx2.mono _ _ put_get)) (hm.mono hx3.mono))
          cases ex with
          | normal => exact wpIn_skip hq
          | exit i => exact wpIn_exit hq
          | ret => exact wpIn_ret hq
  · exact (fail_ok x2).elim

theorem evCode_ok (hcx : CxOk P cx) (hng : cx.ng = ng) (hcall : CallOk P ng w0 call) (hloc : ∀ t xs, Local (call t xs)) (hmix : P.follows .mixedOrders = true) {rd : Bool} (hro : rd = false → ro = none) {N n : Nat} :
    ∀ {code : Code} {ex : Ex} {e e' : E} {ms ms' : List Nat} {h h' : H} {c c' : Nat} {al : List Acc} {φ : Nm} {a : Act} {w : World} {Q : Exit → Act → World → Prop}, goodCode code = true →
      evCode cx call rd N n code ms e h c = .ok (ex, e', ms') h' c' al → ER φ e a.tmps → a.tmps.size = N → MarksR φ ms a.defers → Rel ng w0 φ h w → Fresh φ c c' →
      Lands ng w0 N φ c c' h' e' ms' (Q (exOf ex)) → code.wpIn (fe ro) 0 P Q a w
  | .skip, ex, e, e', ms, ms', h, h', c, c', al, φ, a, w, Q, hg, hrun, he, hs, hm, r, hf, hQ => by
    unfold evCode at hrun
    obtain ⟨hr, rfl, rfl, _⟩ := ret_ok hrun
    cases hr
    exact wpIn_skip (hQ φ a w (Ext.refl _ _ _) r he hs hm)
  | .label _, ex, e, e', ms, ms', h, h', c, c', al, φ, a, w, Q, hg, hrun, he, hs, hm, r, hf, hQ => by
    unfold evCode at hrun
    obtain ⟨hr, rfl, rfl, _⟩ := ret_ok hrun
    cases hr
    exact wpIn_label (hQ φ a w (Ext.refl _ _ _) r he hs hm)
  | .exit id, ex, e, e', ms, ms', h, h', c, c', al, φ, a, w, Q, hg, hrun, he, hs, hm, r, hf, hQ => by
    unfold evCode at hrun
    obtain ⟨hr, rfl, rfl, _⟩ := ret_ok hrun
    cases hr
    exact wpIn_exit (hQ φ a w (Ext.refl _ _ _) r he hs hm)
  | .ret, ex, e, e', ms, ms', h, h', c, c', al, φ, a, w, Q, hg, hrun, he, hs, hm, r, hf, hQ => by
    unfold evCode at hrun
    obtain ⟨hr, rfl, rfl, _⟩ := ret_ok hrun
    cases hr
    exact wpIn_ret (hQ φ a w (Ext.refl _ _ _) r he hs hm)
  | .refuse w1, ex, e, e', ms, ms', h, h', c, c', al, φ, a, w, Q, hg, hrun, _, _, _, _, _, _ => by unfold evCode at hrun; exact (fail_ok hrun).elim
  | .scope _, ex, e, e', ms, ms', h, h', c, c', al, φ, a, w, Q, hg, hrun, _, _, _, _, _, _ => by unfold evCode at hrun; exact (fail_ok hrun).elim
  | .goto _, ex, e, e', ms, ms', h, h', c, c', al, φ, a, w, Q, hg, hrun, _, _, _, _, _, _ => by unfold evCode at hrun; exact (fail_ok hrun).elim
  | .rangeFunc g ps as bo, ex, e, e', ms, ms', h, h', c, c', al, φ, a, w, Q, hg, hrun, he, hs, hm, r, hf, hQ => by
    cases rd with
    | true => unfold evCode at hrun; simp only [if_true] at hrun; exact (fail_ok hrun).elim
    | false => rw [hro rfl]; exact rangeFunc_ok hcx hng hcall hloc hg hrun he hs hm r hf hQ
  | .region id ops draw, ex, e, e', ms, ms', h, h', c, c', al, φ, a, w, Q, hg, hrun, he, hs, hm, r, hf, hQ => by
    unfold evCode at hrun
    obtain ⟨e1, h1, c1, l1, l2, x1, x2, _⟩ := bnd_ok hrun
    obtain ⟨hr, rfl, rfl, _⟩ := ret_ok x2
    cases hr
    cases draw with
    | true =>
      simp only [if_true] at x1
      exact evDrawn_ok hcx hng hcall hloc hmix (by simpa [goodCode] using hg) he hs r x1 hf fun φ' a' w' k1 k2 k3 k4 k5 => hQ φ' a' w' k1 k2 k3 k4 (by rw [k5]; exact hm.mono k1.mono)
    | false =>
      simp only [Bool.false_eq_true, if_false] at x1
      refine wpIn_region ?_
      rw [List.range_eq_range']
      have := evOps_ok (ro := ro) hcx hng hcall hloc (ops := ops) (k := 0) rfl x1 he hs hm r hf hQ
      simpa using this
  | .seq x y, ex, e, e', ms, ms', h, h', c, c', al, φ, a, w, Q, hg, hrun, he, hs, hm, r, hf, hQ => by
    unfold evCode at hrun
    unfold goodCode at hg
    rw [Bool.and_eq_true] at hg
    obtain ⟨⟨ex1, e1, ms1⟩, h1, c1, l1, l2, x1, x2, _⟩ := bnd_ok hrun
    have hc1 := (Local.evCode hloc _ _ _ _ _ _ x1).1
    refine wpIn_seq ?_
    cases ex1 with
    | normal =>
      simp only at x2
      have hc2 := (Local.evCode hloc _ _ _ _ _ _ x2).1
      refine evCode_ok hcx hng hcall hloc hmix hro hg.1 x1 he hs hm r (hf.sub (Nat.le_refl _) hc2) fun φ' a' w' k1 k2 k3 k4 k5 => ?_
      exact evCode_ok hcx hng hcall hloc hmix hro hg.2 x2 k3 k4 k5 k2 (hf.ext k1 hc1) fun φ'' a'' w'' m1 m2 m3 m4 m5 => hQ φ'' a'' w'' (k1.trans m1 hc1 hc2) m2 m3 m4 m5
    | exit i =>
      simp only at x2
      obtain ⟨hr, rfl, rfl, _⟩ := ret_ok x2
      cases hr
      exact evCode_ok hcx hng hcall hloc hmix hro hg.1 x1 he hs hm r hf hQ
    | ret =>
      simp only at x2
      obtain ⟨hr, rfl, rfl, _⟩ := ret_ok x2
      cases hr
      exact evCode_ok hcx hng hcall hloc hmix hro hg.1 x1 he hs hm r hf hQ
  | .cond x p q, ex, e, e', ms, ms', h, h', c, c', al, φ, a, w, Q, hg, hrun, he, hs, hm, r, hf, hQ => by
    unfold evCode at hrun
    unfold goodCode at hg
    rw [Bool.and_eq_true] at hg
    obtain ⟨v, h1, c1, l1, l2, x1, x2, _⟩ := bnd_ok hrun
    obtain ⟨hv, rfl, rfl, _⟩ := lift_ok x1
    have hvr := ev1_ok he r hng hv
    generalize hce : a.eval x = u at hvr
    cases hvr <;> try exact (fail_ok x2).elim
    rename_i b
    cases b with
    | true => exact wpIn_cond_true hce (evCode_ok hcx hng hcall hloc hmix hro hg.1 x2 he hs hm r hf hQ)
    | false => exact wpIn_cond_false hce (evCode_ok hcx hng hcall hloc hmix hro hg.2 x2 he hs hm r hf hQ)
  | .block id b, ex, e, e', ms, ms', h, h', c, c', al, φ, a, w, Q, hg, hrun, he, hs, hm, r, hf, hQ => by
    unfold evCode at hrun
    unfold goodCode at hg
    obtain ⟨⟨ex1, e1, ms1⟩, h1, c1, l1, l2, x1, x2, _⟩ := bnd_ok hrun
    refine wpIn_block ?_
    cases ex1 with
    | normal =>
      simp only at x2
      obtain ⟨hr, rfl, rfl, _⟩ := ret_ok x2
      cases hr
      exact evCode_ok hcx hng hcall hloc hmix hro hg x1 he hs hm r hf hQ
    | ret =>
      simp only at x2
      obtain ⟨hr, rfl, rfl, _⟩ := ret_ok x2
      cases hr
      exact evCode_ok hcx hng hcall hloc hmix hro hg x1 he hs hm r hf hQ
    | exit i =>
      simp only at x2
      split at x2
      · next hi =>
        obtain ⟨hr, rfl, rfl, _⟩ := ret_ok x2
        cases hr
        refine evCode_ok hcx hng hcall hloc hmix hro hg x1 he hs hm r hf fun φ' a' w' k1 k2 k3 k4 k5 => ?_
        simp only [exOf, Exit.inBlock, hi, if_true]
        exact hQ φ' a' w' k1 k2 k3 k4 k5
      · next hi =>
        obtain ⟨hr, rfl, rfl, _⟩ := ret_ok x2
        cases hr
        refine evCode_ok hcx hng hcall hloc hmix hro hg x1 he hs hm r hf fun φ' a' w' k1 k2 k3 k4 k5 => ?_
        simp only [exOf, Exit.inBlock, hi, if_false]
        exact hQ φ' a' w' k1 k2 k3 k4 k5
  | .loop b, ex, e, e', ms, ms', h, h', c, c', al, φ, a, w, Q, hg, hrun, he, hs, hm, r, hf, hQ => by
    unfold evCode at hrun
    unfold goodCode at hg
    exact wpIn_loop_rounds n (loopM_ok (fun ms e => Local.evCode hloc) (fun x1 he hs hm r hf hQ => evCode_ok hcx hng hcall hloc hmix hro hg x1 he hs hm r hf hQ) hrun he hs hm r hf hQ)

/-! ## Functions -/

theorem initE_ok {φ : Nm} : ∀ {vs : List V} {us : List Value} {i : Nat} {e : E} {ts : Array Value}, VRs φ vs us → ER φ e ts → (∀ k, k < us.length → ts[i + k]? = us[k]?) → ER φ (initE vs i e) ts
  | [], us, i, e, ts, hv, he, ht => he
  | v :: vs, us, i, e, ts, hv, he, ht => by
    obtain ⟨u, us, rfl, h1, h2⟩ := hv.inv
    unfold initE
    refine initE_ok h2 (fun t x hx => ?_) fun k hk => ?_
    · by_cases h : i = t
      · subst h
        rw [MapI.get_same] at hx; cases hx
        exact ⟨u, by have := ht 0 (by simp); simpa using this, h1⟩
      · rw [MapI.get_ne _ _ _ _ h] at hx
        exact he t x hx
    · have := ht (k + 1) (by simpa using hk)
      rw [show i + 1 + k = i + (k + 1) by omega, this]; rfl

def resOp (ts : Array Value) : ResultVar → Sem Value
  | .tmp t => pure (ts.getD t undef)
  | .cell a t => do loadVar t (← asAddr (ts.getD a undef))
theorem results_eq (fn : Func) (ts : Array Value) : results fn ts = (do let vs ← fn.results.mapM (resOp ts); pure (if h : vs.size = 1 then vs[0] else .tuple vs)) := rfl

theorem resM_ok (hcx : CxOk P cx) {φ : Nm} {h h' : H} {c c' : Nat} {e : E} {w : World} {ts : Array Value} (he : ER φ e ts) (r : Rel ng w0 φ h w) :
    ∀ {l : List ResultVar} {vs : List V} {al : List Acc}, resM cx e l h c = .ok vs h' c' al → h' = h ∧ c' = c ∧ ∃ us, VRs φ vs us ∧
      (l.mapM (resOp ts)).run P w = .ok us w
  | [], vs, al, hrun => by
    unfold resM at hrun
    obtain ⟨rfl, rfl, rfl, _⟩ := ret_ok hrun
    exact ⟨rfl, rfl, [], .nil, rfl⟩
  | .tmp t :: l, vs, al, hrun => by
    unfold resM at hrun
    obtain ⟨v, h1, c1, l1, l2, x1, x2, _⟩ := bnd_ok hrun
    obtain ⟨hv, hh, hcc, _⟩ := lift_ok x1
    rw [hh, hcc] at x2
    obtain ⟨ws, h2, c2, l3, l4, x3, x4, _⟩ := bnd_ok x2
    obtain ⟨rfl, hh, hcc, _⟩ := ret_ok x4
    rw [hh, hcc]
    obtain ⟨rfl, rfl, us, hus, hr⟩ := resM_ok hcx he r x3
    obtain ⟨u, hu, huv⟩ := he t v hv
    refine ⟨rfl, rfl, u :: us, .cons huv hus, ?_⟩
    have : ts.getD t undef = u := by simp [Array.getD_eq_getD_getElem?, hu]
    simp only [List.mapM_cons, resOp, Sem.run_bind, Sem.run_pure, Result.andThen_ok, hr, this]
  | .cell a t :: l, vs, al, hrun => by
    unfold resM at hrun
    obtain ⟨v, h1, c1, l1, l2, x1, x2, _⟩ := bnd_ok hrun
    obtain ⟨hv, hh, hcc, _⟩ := lift_ok x1
    rw [hh, hcc] at x2
    obtain ⟨p, h2, c2, l3, l4, y1, y2, _⟩ := bnd_ok x2
    obtain ⟨rfl, hh2, hcc2⟩ := asP_ok y1
    rw [hh2, hcc2] at y2
    obtain ⟨n, o⟩ := p
    obtain ⟨v2, h3, c3, l5, l6, z1, z2, _⟩ := bnd_ok y2
    obtain ⟨hh3, hcc3, L, u2, hL, hu2, hr2⟩ := loadT_ok (P := P) hcx r z1
    rw [hh3, hcc3] at z2
    obtain ⟨ws, h4, c4, l7, l8, x3, x4, _⟩ := bnd_ok z2
    obtain ⟨rfl, hh4, hcc4, _⟩ := ret_ok x4
    rw [hh4, hcc4]
    obtain ⟨rfl, rfl, us, hus, hr⟩ := resM_ok hcx he r x3
    obtain ⟨u, hu, huv⟩ := he a _ hv
    obtain ⟨K, hK, rfl⟩ := ptr_inv huv
    rw [hL] at hK; cases hK
    refine ⟨rfl, rfl, u2 :: us, .cons hu2 hus, ?_⟩
    have : ts.getD a undef = .pointer (some ⟨L.blk, L.off + o, none⟩) := by simp [Array.getD_eq_getD_getElem?, hu]
    simp only [List.mapM_cons, resOp, Sem.run_bind, Sem.run_pure, Result.andThen_ok, hr, this, asAddr, hr2]

theorem results_ok (hcx : CxOk P cx) {φ : Nm} {h h' : H} {c c' : Nat} {e : E} {w : World} {ts : Array Value} (he : ER φ e ts) (r : Rel ng w0 φ h w) {fn : Func} {vs : List V} {al : List Acc}
    (hrun : resM cx e fn.results.toList h c = .ok vs h' c' al) : h' = h ∧ c' = c ∧ ∃ u, VR φ (tup vs) u ∧ (results fn ts).run P w = .ok u w := by
  obtain ⟨hh, hcc, us, hus, hr⟩ := resM_ok hcx he r hrun
  have hlen := hus.length
  refine ⟨hh, hcc, if h : (⟨us⟩ : Array Value).size = 1 then (⟨us⟩ : Array Value)[0] else .tuple ⟨us⟩, ?_, ?_⟩
  · cases hus with
    | nil => exact .tuple .nil
    | cons h1 h2 =>
      cases h2 with
      | nil => exact h1
      | cons h3 h4 => simp [tup]; exact .tuple (.cons h1 (.cons h3 h4))
  · rw [results_eq, Array.mapM_eq_mapM_toList]
    simp only [map_eq_pure_bind, bind_assoc, pure_bind, Sem.run_bind]
    rw [hr]
    simp only [Result.andThen_ok, Sem.run_pure]

theorem spendM_ok {φ : Nm} {R : Ending → World → Prop} {fn : Func} {ts : Array Value} : ∀ {ms : List Nat} {ds : List Deferred} {h h' : H} {c c' : Nat} {u : Unit} {al : List Acc} {w : World}, spendM ms h c = .ok u h' c' al → MarksR φ ms ds → Rel ng w0 φ h w →
    c' = c ∧ ((∀ w', Rel ng w0 φ h' w' → ∃ v, (results fn ts).run P w' = .ok v w' ∧ R (.returned v) w') → LeavesInM (fe none) 0 P fn ts R ds .returning w)
  | [], ds, h, h', c, c', u, al, w, hrun, hm, r => by
    unfold spendM at hrun
    obtain ⟨_, rfl, rfl, _⟩ := ret_ok hrun
    cases hm
    exact ⟨rfl, fun hR => hR w r⟩
  | d :: ms, ds, h, h', c, c', u, al, w, hrun, hm, r => by
    unfold spendM at hrun
    obtain ⟨ob, h1, c1, l1, l2, x1, x2, _⟩ := bnd_ok hrun
    obtain ⟨hg, rfl, rfl, _⟩ := getM_ok x1
    cases ob <;> try exact (fail_ok x2).elim
    simp only at x2
    obtain ⟨_, h2, c2, l3, l4, x3, x4, _⟩ := bnd_ok x2
    obtain ⟨_, rfl, rfl, _⟩ := setM_ok x3
    cases hm with
    | cons hL hm =>
      rename_i L ds
      obtain ⟨K, hK, hob, _⟩ := r.obj _ _ hg
      rw [hL] at hK; cases hK
      have hb : w.heap[L.blk]? = some (.deferred (some [])) := hob
      have r' := r.setBlk (o' := .spent) (b := .deferred none) hg rfl hL rfl ⟨_, rfl⟩
      obtain ⟨hc, hl⟩ := spendM_ok (fn := fn) (ts := ts) (R := R) x4 hm r'
      refine ⟨hc, fun hR => ⟨fun e => (by cases e), .inl ⟨L.blk, _, rfl, run_takeDeferred hb, hl hR⟩⟩⟩

/-- What stands in for a function's text, its callees by 'call'. -/
structure PrimOk (P : Program) (ng : Nat) (w0 : World) (f : Nat) (m : (Tgt → List V → M H V) → List V → M H V) : Prop where
  ok : ∀ call, CallOk P ng w0 call → (∀ t xs, Local (call t xs)) → ∀ xs h c v h' c' l φ w xs', m call xs h c = .ok v h' c' l → Rel ng w0 φ h w → VRs φ xs xs' → Fresh φ c c' →
    Answers P φ (.fn f) ⟨xs'⟩ w fun u w' => ∃ φ', Ext φ φ' c c' ∧ c ≤ c' ∧ Rel ng w0 φ' h' w' ∧ VR φ' v u
  loc : ∀ call xs, (∀ t xs, Local (call t xs)) → Local (m call xs)

theorem bodyM_ok (hcx : CxOk P cx) (hng : cx.ng = ng) (hcall : CallOk P ng w0 call) (hloc : ∀ t xs, Local (call t xs)) (hmix : P.follows .mixedOrders = true)
    (hgood : ∀ f fn c, cx.fn f = some fn → fn.body = some c → goodCode c = true) {n f : Nat} {xs : List V} {h h' : H} {c c' : Nat} {v : V} {l : List Acc} {φ : Nm} {w : World} {xs' : List Value}
    (hrun : bodyM E cx call n f xs h c = .ok v h' c' l) (r : Rel ng w0 φ h w) (hx : VRs φ xs xs') (hf : Fresh φ c c') :
    Answers P φ (.fn f) ⟨xs'⟩ w fun u w' => ∃ φ', Ext φ φ' c c' ∧ c ≤ c' ∧ Rel ng w0 φ' h' w' ∧ VR φ' v u := by
  unfold bodyM at hrun
  cases hfn : cx.fn f with
  | none => rw [hfn] at hrun; exact (fail_ok hrun).elim
  | some fn =>
    simp only [hfn] at hrun
    cases hb : fn.body with
    | none => simp only [hb] at hrun; exact (fail_ok hrun).elim
    | some code =>
      simp only [hb] at hrun
      split at hrun
      · next hle =>
        obtain ⟨hP, hname⟩ := hcx.fn _ _ hfn
        obtain ⟨⟨ex, e1, ms1⟩, h1, c1, l1, l2, x1, x2, _⟩ := bnd_ok hrun
        have hc01 := (Local.evCode hloc _ _ _ _ _ _ x1).1
        have fin : ∀ {φ' : Nm} {a' : Act} {w' : World}, Ext φ φ' c c1 → Rel ng w0 φ' h1 w' → ER φ' e1 a'.tmps → MarksR φ' ms1 a'.defers →
            (bnd (spendM ms1) fun _ => bnd (resM cx e1 fn.results.toList) fun vs => ret (tup vs)) h1 c1 = .ok v h' c' l2 →
            LeavesInM (fe none) 0 P fn a'.tmps (fun e w' => ∃ u', e = .returned u' ∧ ∃ φ', Ext φ φ' c c' ∧ c ≤ c' ∧ Rel ng w0 φ' h' w' ∧ VR φ' v u') a'.defers .returning w' := by
          intro φ' a' w' k1 k2 k3 k4 x2
          obtain ⟨_, h2, c2, l3, l4, x3, x4, _⟩ := bnd_ok x2
          obtain ⟨hcc2, hl⟩ := spendM_ok (P := P) (fn := fn) (ts := a'.tmps) (R := fun e w' => ∃ u', e = .returned u' ∧ ∃ φ', Ext φ φ' c c' ∧ c ≤ c' ∧ Rel ng w0 φ' h' w' ∧ VR φ' v u') x3 k4 k2
          refine hl fun w2 r2 => ?_
          obtain ⟨vs, h3, c3, l5, l6, x5, x6, _⟩ := bnd_ok x4
          obtain ⟨hvv, hh, hcc, _⟩ := ret_ok x6
          obtain ⟨hh3, hcc3, u, hu, hr⟩ := results_ok (P := P) hcx k3 r2 x5
          have ec : c' = c1 := by rw [hcc, hcc3, hcc2]
          refine ⟨u, hr, u, rfl, φ', ?_, ?_, ?_, ?_⟩
          · rw [ec]; exact k1
          · rw [ec]; exact hc01
          · rw [hh, hh3]; exact r2
          · rw [hvv]; exact hu
        refine .inl ⟨?_, (callsIn_fe (ro := none) (n := 0)).1 (callsIn_of_wp_marks hP hb trivial ?_)⟩
        · simp only [callFunc, Sem.run_bind, run_program, Result.andThen_ok, hP, hname, hb]; rfl
        · have hlen := hx.length
          have hc1 : c1 ≤ c' := by
            cases ex with
            | exit i => exact (fail_ok x2).elim
            | normal => exact (Local.bnd Local.spendM (fun _ => Local.bnd Local.resM (fun _ => Local.ret)) _ _ _ _ _ _ x2).1
            | ret => exact (Local.bnd Local.spendM (fun _ => Local.bnd Local.resM (fun _ => Local.ret)) _ _ _ _ _ _ x2).1
          refine evCode_ok hcx hng hcall hloc hmix (fun _ => rfl) (hgood _ _ _ hfn hb) x1 (initE_ok hx (fun t x hx => by rw [MapI.get_emp] at hx; cases hx) fun k hk => ?_) ?_ .nil r (hf.sub (Nat.le_refl _) hc1) fun φ' a' w' k1 k2 k3 k4 k5 => ?_
          · rw [Nat.zero_add, Array.getElem?_append_left (by simpa using hk)]; simp
          · simp; omega
          · cases ex with
            | exit i => exact (fail_ok x2).elim
            | normal => exact fin k1 k2 k3 k5 x2
            | ret => exact fin k1 k2 k3 k5 x2
      · exact (fail_ok hrun).elim
theorem initL_ok {φ : Nm} {ts : Array Value} : ∀ {es : List (Nat × V)} {e : E}, KnownR φ es ts → ER φ e ts → ER φ (initL es e) ts
  | [], e, hk, he => he
  | (t, v) :: es, e, hk, he => by
    unfold initL
    refine initL_ok (fun t' v' h => hk t' v' (List.mem_cons_of_mem _ h)) fun t' v' h => ?_
    by_cases ht : t = t'
    · subst ht
      rw [MapI.get_same] at h; cases h
      exact hk _ _ (List.mem_cons_self ..)
    · rw [MapI.get_ne _ _ _ _ ht] at h
      exact he _ _ h
theorem initP_ok {φ : Nm} {N : Nat} : ∀ {ps : List Nat} {xs : List V} {xs' : List Value} {e : E} {ts : Array Value}, VRs φ xs xs' → xs.length = ps.length → (ps.all fun t => Nat.blt t N) = true → ts.size = N → ER φ e ts →
    ER φ (initL (ps.zip xs) e) ((ps.zip xs').foldl (fun tmps (t, a) => tmps.setIfInBounds t a) ts) ∧ ((ps.zip xs').foldl (fun tmps (t, a) => tmps.setIfInBounds t a) ts).size = N
  | [], xs, xs', e, ts, hx, hl, ha, hs, he => by
    exact ⟨he, hs⟩
  | p :: ps, [], xs', e, ts, hx, hl, ha, hs, he => by simp at hl
  | p :: ps, x :: xs, xs', e, ts, hx, hl, ha, hs, he => by
    obtain ⟨u, us, rfl, h1, h2⟩ := hx.inv
    rw [List.all_cons, Bool.and_eq_true] at ha
    have hp : p < ts.size := by rw [hs]; exact Nat.le_of_ble_eq_true ha.1
    simp only [List.zip_cons_cons, List.foldl_cons]
    unfold initL
    exact initP_ok h2 (by simpa using hl) ha.2 (by rw [Array.size_setIfInBounds]; exact hs)
      (ER.put (a := { tmps := ts, defers := [] }) (d := some p) he rfl (fun t ht => by cases ht; exact hp) h1)

theorem roundM_ok (hcx : CxOk P cx) (hng : cx.ng = ng) (hcall : CallOk P ng w0 call) (hloc : ∀ t xs, Local (call t xs)) (hmix : P.follows .mixedOrders = true)
    {n l0 : Nat} {xs : List V} {h h' : H} {c c' : Nat} {v : V} {al : List Acc} {φ : Nm} {w : World} {xs' : List Value}
    (hrun : roundM E cx call n l0 xs h c = .ok v h' c' al) (r : Rel ng w0 φ h w) (hx : VRs φ xs xs') (hf : Fresh φ c c') :
    Answers P φ (.yl l0) ⟨xs'⟩ w fun u w' => ∃ φ', Ext φ φ' c c' ∧ c ≤ c' ∧ Rel ng w0 φ' h' w' ∧ VR φ' v u := by
  unfold roundM at hrun
  obtain ⟨ob, h1, c1, l1, l2, x1, x2, _⟩ := bnd_ok hrun
  obtain ⟨hg, rfl, rfl, _⟩ := getM_ok x1
  obtain ⟨L, hL, hob, hwr⟩ := r.obj _ _ hg
  clear hwr x1
  cases ob <;> try exact (fail_ok x2).elim
  case loop st d N es ps as bo =>
    cases st <;> try exact (fail_ok x2).elim
    obtain ⟨ho, q, hq, hst, hpe, hsz, hkn, hps, has, hbo, hga, hgb⟩ := hob
    simp only at x2
    split at x2
    · next hle =>
      obtain ⟨hlen, hall⟩ := hle
      obtain ⟨⟨ex1, e1, ms1⟩, h2, c2, l3, l4, x3, x4, _⟩ := bnd_ok x2
      cases ex1 <;> try exact (fail_ok x4).elim
      simp only at x4
      obtain ⟨ob2, h3, c3, l5, l6, x5, x6, _⟩ := bnd_ok x4
      obtain ⟨hg2, rfl, rfl, _⟩ := getM_ok x5
      have hc2 := (Local.evCode hloc _ _ _ _ _ _ x3).1
      cases ob2 <;> try exact (fail_ok x6).elim
      case loop st2 d2 N2 es2 ps2 as2 bo2 =>
        cases st2 <;> try exact (fail_ok x6).elim
        simp only at x6
        obtain ⟨_, h4, c4, l7, l8, x7, x8, _⟩ := bnd_ok x6
        obtain ⟨_, rfl, rfl, _⟩ := setM_ok x7
        obtain ⟨⟨ex2, e2, ms2⟩, h5, c5, l9, l10, x9, x10, _⟩ := bnd_ok x8
        simp only at x10
        obtain ⟨ob3, h6, c6, l11, l12, x11, x12, _⟩ := bnd_ok x10
        obtain ⟨hg3, rfl, rfl, _⟩ := getM_ok x11
        have hc5 := (Local.evCode hloc _ _ _ _ _ _ x9).1
        cases ob3 <;> try exact (fail_ok x12).elim
        case loop st3 d3 N3 es3 ps3 as3 bo3 =>
          cases st3 <;> try exact (fail_ok x12).elim
          simp only at x12
          have hfin : c' = c6 ∧ ((ex2 = .normal ∧ v = .bool true ∧ h' = MapI.set h6 l0 (.loop .ready d3 N3 es3 ps3 as3 bo3)) ∨ (ex2 ≠ .normal ∧ v = .bool false ∧ h' = MapI.set h6 l0 (.loop (.done ex2) d3 N3 es3 ps3 as3 bo3))) := by
            cases ex2 with
            | normal =>
              simp only at x12
              obtain ⟨_, h7, c7, l13, l14, x13, x14, _⟩ := bnd_ok x12
              obtain ⟨_, rfl, rfl, _⟩ := setM_ok x13
              obtain ⟨rfl, rfl, rfl, _⟩ := ret_ok x14
              exact ⟨rfl, .inl ⟨rfl, rfl, rfl⟩⟩
            | exit i =>
              simp only at x12
              obtain ⟨_, h7, c7, l13, l14, x13, x14, _⟩ := bnd_ok x12
              obtain ⟨_, rfl, rfl, _⟩ := setM_ok x13
              obtain ⟨rfl, rfl, rfl, _⟩ := ret_ok x14
              exact ⟨rfl, .inr ⟨fun e => (by cases e), rfl, rfl⟩⟩
            | ret =>
              simp only at x12
              obtain ⟨_, h7, c7, l13, l14, x13, x14, _⟩ := bnd_ok x12
              obtain ⟨_, rfl, rfl, _⟩ := setM_ok x13
              obtain ⟨rfl, rfl, rfl, _⟩ := ret_ok x14
              exact ⟨rfl, .inr ⟨fun e => (by cases e), rfl, rfl⟩⟩
          obtain ⟨rfl, hfin⟩ := hfin
          have hxl := hx.length
          have hpl : (⟨xs'⟩ : Array Value).size = q.params.size := by
            have : q.params.toList.length = ps.length := by rw [hps]
            simp at this ⊢
            omega
          refine ⟨L, hL, q.fn, _, q.assign, q.body, run_yield hq hpl, roundIn_of_wpIn trivial ?_⟩
          have hT : (q.params.zip (⟨xs'⟩ : Array Value)).foldl (fun tmps (t, a) => tmps.setIfInBounds t a) q.tmps = (ps.zip xs').foldl (fun tmps (t, a) => tmps.setIfInBounds t a) q.tmps := by
            rw [← Array.foldl_toList, Array.toList_zip, hps]
          obtain ⟨hEr, hSz⟩ := initP_ok (E := E) hx hlen hall hsz (initL_ok hkn fun t x hx => by rw [MapI.get_emp] at hx; cases hx)
          rw [hT, has, hbo]
          refine evCode_ok (ro := some L.blk) hcx hng hcall hloc hmix (fun e => by cases e) hga x3 hEr hSz .nil r (hf.sub (Nat.le_refl _) hc5) fun φ1 a1 w1 k1 k2 k3 k4 k5 => ?_
          obtain ⟨K, hK, hob2, hwr⟩ := k2.obj _ _ hg2
          clear hwr
          have hL1 := k1.mono _ _ hL
          rw [hL1] at hK; cases hK
          obtain ⟨ho2, q2, hq2, hst2, hpe2, hrest2⟩ := hob2
          have hpe2 : q2.pending = none := hpe2
          have r2 := k2.setBlk (o' := .loop .busy d2 N2 es2 ps2 as2 bo2) (b := .loop { q2 with state := .busy }) hg2 rfl hL1 rfl ⟨ho2, _, rfl, rfl, hpe2, hrest2⟩
          refine ⟨_, run_beginRound hq2 hst2, ?_⟩
          refine evCode_ok (ro := some L.blk) hcx hng hcall hloc hmix (fun e => by cases e) hgb x9 k3 k4 k5 r2 (hf.ext k1 hc2) fun φ2 a2 w2 m1 m2 m3 m4 m5 => ?_
          obtain ⟨K, hK, hob3, hwr⟩ := m2.obj _ _ hg3
          clear hwr
          have hL2 := m1.mono _ _ hL1
          rw [hL2] at hK; cases hK
          obtain ⟨ho3, q3, hq3, hst3, hpe3, hrest3⟩ := hob3
          rcases hfin with ⟨rfl, rfl, rfl⟩ | ⟨hne, rfl, rfl⟩
          · have r3 := m2.setBlk (o' := .loop .ready d3 N3 es3 ps3 as3 bo3) (b := .loop { q3 with state := .ready, pending := none }) hg3 rfl hL2 rfl ⟨ho3, _, rfl, rfl, rfl, hrest3⟩
            exact ⟨_, _, run_endRound none hq3, _, rfl, φ2, k1.trans m1 hc2 hc5, Nat.le_trans hc2 hc5, r3, .bool _⟩
          · have r3 := m2.setBlk (o' := .loop (.done ex2) d3 N3 es3 ps3 as3 bo3) (b := .loop { q3 with state := .done, pending := some (codeOf ex2) }) hg3 rfl hL2 rfl ⟨ho3, _, rfl, rfl, rfl, hrest3⟩
            cases ex2 with
            | normal => exact (hne rfl).elim
            | exit i => exact ⟨_, _, run_endRound (some (.exit i)) hq3, _, rfl, φ2, k1.trans m1 hc2 hc5, Nat.le_trans hc2 hc5, r3, .bool _⟩
            | ret => exact ⟨_, _, run_endRound (some .ret) hq3, _, rfl, φ2, k1.trans m1 hc2 hc5, Nat.le_trans hc2 hc5, r3, .bool _⟩
    · exact (fail_ok x2).elim

theorem evFn_ok (hcx : CxOk P cx) (hng : cx.ng = ng) (hmix : P.follows .mixedOrders = true) (hgood : ∀ f fn c, cx.fn f = some fn → fn.body = some c → goodCode c = true)
    {prim : Nat → Option ((Tgt → List V → M H V) → List V → M H V)} (hprim : ∀ f m, prim f = some m → PrimOk P ng w0 f m) : ∀ n, CallOk P ng w0 (evFn E cx prim n)
  | 0 => fun t xs h c v h' c' l φ w xs' hrun r hx hf => by unfold evFn at hrun; exact (fail_ok hrun).elim
  | n + 1 => fun t xs h c v h' c' l φ w xs' hrun r hx hf => by
    have hl : ∀ t xs, Local (evFn E cx prim n t xs : M H V) := fun t xs => Local.evFn fun f m call xs hm hc => (hprim f m hm).loc call xs hc
    unfold evFn at hrun
    cases t with
    | fn f =>
      simp only at hrun
      cases hp : prim f with
      | some m =>
        rw [hp] at hrun
        exact (hprim f m hp).ok _ (evFn_ok hcx hng hmix hgood hprim n) hl _ _ _ _ _ _ _ _ _ _ hrun r hx hf
      | none =>
        rw [hp] at hrun
        exact bodyM_ok hcx hng (evFn_ok hcx hng hmix hgood hprim n) hl hmix hgood hrun r hx hf
    | yl l0 => exact roundM_ok hcx hng (evFn_ok hcx hng hmix hgood hprim n) hl hmix hrun r hx hf
end
end Go.Ab
