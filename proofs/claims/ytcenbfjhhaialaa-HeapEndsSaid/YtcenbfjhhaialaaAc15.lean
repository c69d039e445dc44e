/- The abstract evaluator against the model: every operation. -/
import Derived.Test.YtcenbfjhhaialaaAc14
import Derived.Maps.RangeRun
set_option linter.unusedVariables false
set_option linter.unusedSectionVars false
set_option linter.unusedSimpArgs false
set_option linter.unnecessarySimpa false
namespace Go.Ab
open Go.RowKit

section
variable {H E : Type} [MapI H AObj] [MapI E V] {P : Program} {ng : Nat} {w0 w : World} {φ : Nm} {h h' : H} {c c' : Nat} {l : List Acc}
variable {a : Act} {e : E} {cx : Cx} {o : Oper} {next : Act → World → Prop} {Q : Exit → Act → World → Prop} {call : Tgt → List V → M H V} {ro : Option Nat}

/-- What is left to show when an operation's value has come. -/
def Goes (ng : Nat) (w0 : World) (φ : Nm) (c c' : Nat) (h' : H) (v : V) (a : Act) (o : Oper) (next : Act → World → Prop) : Prop :=
  ∀ φ' u w', Ext φ φ' c c' → c ≤ c' → Rel ng w0 φ' h' w' → VR φ' v u → next (a.put o.dst u) w'

theorem goes_value {v : V} {s : Sem Value} (hnd : ∀ c, o.op ≠ .defer c) (hn : Goes ng w0 φ c c' h' v a o next) (hs : Done P ng w0 φ c c' h' w v s)
    (hx : (execOp a.eval o) = (do pure (.value (← s)) : Sem Next)) : o.wpIn (fe ro) 0 P a w next Q := by
  obtain ⟨φ', u, w', h1, h2, h3, h4, h5⟩ := hs
  exact wp_of_value hnd (by rw [hx]; simp [h5]) (hn φ' u w' h1 h2 h3 h4)
theorem goes_here {v : V} {u : Value} {s : Sem Value} (hnd : ∀ c, o.op ≠ .defer c) (hn : Goes ng w0 φ c c h v a o next) (r : Rel ng w0 φ h w) (hv : VR φ v u) (hs : s.run P w = .ok u w)
    (hx : (execOp a.eval o) = (do pure (.value (← s)) : Sem Next)) : o.wpIn (fe ro) 0 P a w next Q := goes_value hnd hn (Done.here r hv hs) hx

theorem newObj_done {ob : AObj} {b : Obj} {v : V} {f : Nat → Value} (r : Rel ng w0 φ h w) (hf : Fresh φ c (c + 1)) (hw : ob.writable = true) (L : Loc) (hL : L.blk = w.heap.size)
    (ho : ∀ ψ : Nm, (∀ n K, φ n = some K → ψ n = some K) → ObjR ψ ob L (some b)) (hv : ∀ ψ : Nm, ψ c = some L → VR ψ v (f w.heap.size)) :
    Done P ng w0 φ c (c + 1) (MapI.set h c ob) w v (do let n ← newObj b; pure (f n)) := by
  have hc := hf c (Nat.le_refl _) (Nat.lt_succ_self _)
  refine ⟨φ.put c L, f w.heap.size, w.alloc b, Ext.put _ hc, Nat.le_succ _, r.alloc hc hL hw (ho _ (Ext.put _ hc).mono), hv _ put_get, ?_⟩
  simp only [Sem.run_bind, run_newObj, Result.andThen_ok, Sem.run_pure]; rfl

theorem asP_ok {q : V} {p : Nat × Nat} {c1 : Nat} {h1 : H} {l1 : List Acc} (e : asP q h c = .ok p h1 c1 l1) : q = .ptr (some p) ∧ h1 = h ∧ c1 = c := by
  unfold asP at e
  split at e
  · obtain ⟨rfl, rfl, rfl, _⟩ := ret_ok e; exact ⟨rfl, rfl, rfl⟩
  · exact (fail_ok e).elim
theorem ptr_inv {n off : Nat} {u : Value} (h : VR φ (.ptr (some (n, off))) u) : ∃ L : Loc, φ n = some L ∧ u = .pointer (some ⟨L.blk, L.off + off, none⟩) := by
  cases h with
  | ptr _ hL => exact ⟨_, hL, rfl⟩

theorem callM_ok (hcx : CxOk P cx) (hng : cx.ng = ng) (hcall : CallOk P ng w0 call) (he : ER φ e a.tmps) (r : Rel ng w0 φ h w) {cl : Call} {v : V} (hop : o.op = .call cl)
    (hrun : callM cx call e cl h c = .ok v h' c' l) (hf : Fresh φ c c') (hn : Goes ng w0 φ c c' h' v a o next) : o.wpIn (fe ro) 0 P a w next Q := by
  have hnd : ∀ c, o.op ≠ .defer c := fun c e => by rw [hop] at e; cases e
  unfold callM at hrun
  obtain ⟨xs, h1, c1, l1, l2, e1, e2, _⟩ := bnd_ok hrun
  obtain ⟨hxs, rfl, rfl, _⟩ := lift_ok e1
  have hargs := evs_ok he r hng hxs
  have harr : cl.args.map a.eval = ⟨cl.args.toList.map a.eval⟩ := arr_map _ _
  have hex : execOp a.eval o = (do let d ← resolve a.eval cl o.type; invoke d.target d.args) := by simp only [execOp, hop]
  cases hcal : cl.callee with
  | builtin b =>
    simp only [hcal] at e2
    obtain ⟨φ', u, w', k1, k2, k3, k4, k5⟩ := builtinM_ok (ty := o.type) (cs := cl.args.map fun | .const _ => true | _ => false) hcx r hargs e2 hf
    refine wp_of_value hnd ?_ (hn φ' u w' k1 k2 k3 k4)
    rw [hex]
    simp only [resolve, hcal, Sem.run_bind, Sem.run_pure, Result.andThen_ok, invoke, harr]
    exact k5
  | value f =>
    simp only [hcal] at e2
    obtain ⟨fv, h2, c2, l3, l4, e3, e4, _⟩ := bnd_ok e2
    obtain ⟨hfv, rfl, rfl, _⟩ := lift_ok e3
    have hfr := ev1_ok he r hng hfv
    cases fv <;> try exact (fail_ok e4).elim
    case yld n =>
      simp only at e4
      generalize hfe : a.eval f = fu at hfr
      cases hfr with | yld hL => ?_
      rename_i L
      have hans := hcall _ _ _ _ _ _ _ _ _ _ _ e4 r hargs hf
      refine wp_of_yield hnd hL rfl ?_ hans (fun u w' ⟨φ', k1, k2, k3, k4⟩ => hn φ' u w' k1 k2 k3 k4)
      rw [hex]
      simp only [resolve, hcal, hfe, Deferred.ofValue, Sem.run_bind, Sem.run_pure, Result.andThen_ok, invoke, harr]
      simp
    rename_i fn first cap
    cases fn <;> try exact (fail_ok e4).elim
    rename_i f0
    simp only at e4
    generalize hfe : a.eval f = fu at hfr
    cases hfr with | func hfirst hcap => ?_
    rename_i first' cap'
    have hans := hcall _ _ _ _ _ _ _ _ _ _ _ e4 r ((hfirst.append hargs).append hcap) hf
    refine wp_of_answers hnd ?_ hans (fun u w' ⟨φ', k1, k2, k3, k4⟩ => hn φ' u w' k1 k2 k3 k4)
    rw [hex]
    simp only [resolve, hcal, hfe, Deferred.ofValue, Sem.run_bind, Sem.run_pure, Result.andThen_ok, invoke, harr]
    congr 2
    apply Array.ext'; simp
  | invoke rc name =>
    simp only [hcal] at e2
    obtain ⟨fv, h2, c2, l3, l4, e3, e4, _⟩ := bnd_ok e2
    obtain ⟨hfv, rfl, rfl, _⟩ := lift_ok e3
    have hfr := ev1_ok he r hng hfv
    cases fv <;> try exact (fail_ok e4).elim
    rename_i t rv
    simp only at e4
    obtain ⟨f0, h3, c3, l5, l6, e5, e6, _⟩ := bnd_ok e4
    obtain ⟨hm, rfl, rfl, _⟩ := lift_ok e5
    generalize hfe : a.eval rc = fu at hfr
    cases hfr with | iface _ hrv => ?_
    rename_i ru
    have hans := hcall _ _ _ _ _ _ _ _ _ _ _ e6 r (VRs.cons hrv hargs) hf
    refine wp_of_answers hnd ?_ hans (fun u w' ⟨φ', k1, k2, k3, k4⟩ => hn φ' u w' k1 k2 k3 k4)
    rw [hex]
    have hmr := methodV_ok (w := w) (v := ru) hcx hm
    simp only [Sem.run_bind, run_program, Result.andThen_ok] at hmr
    have e7 : (#[Value.iface t ru] ++ (⟨cl.args.toList.map a.eval⟩ : Array Value)).extract 1 (#[Value.iface t ru] ++ (⟨cl.args.toList.map a.eval⟩ : Array Value)).size = ⟨cl.args.toList.map a.eval⟩ := by
      apply Array.ext'
      have : cl.args.size = (cl.args.toList.map a.eval).length := by simp
      simp only [Array.toList_extract, Array.toList_append, List.extract_eq_take_drop, Array.size_append]
      simp
      exact List.take_of_length_le (by simp)
    have e8 : (#[Value.iface t ru] ++ (⟨cl.args.toList.map a.eval⟩ : Array Value))[0]? = some (Value.iface t ru) := by simp
    simp only [resolve, hcal, hfe, Sem.run_bind, Sem.run_pure, Result.andThen_ok, invoke, harr, e8, e7, callMethod, run_program, hmr]
    congr 2
    apply Array.ext'; simp

theorem hasN_ok (n : Nat) : ∀ l : List Nat, hasN n l = l.contains n
  | [] => rfl
  | m :: l => by
    rw [hasN, hasN_ok n l, List.contains_cons, Bool.eq_iff_iff]
    simp
theorem MRs.left {seen : List Nat} : ∀ {es : List (V × V × Nat)} {us : List MapEntry}, MRs φ es us → MRs φ (leftV es seen) (us.filter fun e => !(⟨seen⟩ : Array Nat).contains e.born)
  | _, _, .nil => .nil
  | _, _, .cons (b := b) (e := e) hk hv hb hr => by
    have ih := MRs.left (seen := seen) hr
    have hc : (⟨seen⟩ : Array Nat).contains e.born = hasN b seen := by rw [hasN_ok, hb]; simp
    rw [leftV, List.filter_cons, hc]
    cases hasN b seen with
    | true => exact ih
    | false => exact .cons hk hv hb ih
theorem MRs.findB {b : Nat} {k v : V} : ∀ {es : List (V × V × Nat)} {us : List MapEntry}, MRs φ es us → findB b es = some (k, v) → ∃ e, us.find? (·.born == b) = some e ∧ VR φ k e.key ∧ VR φ v e.val
  | _, _, .nil, h => by cases h
  | _, _, .cons (b := c) (e := e) hk hv hb hr, h => by
    unfold Ab.findB at h
    rw [List.find?_cons]
    cases hc : Nat.beq c b with
    | true =>
      rw [hc] at h
      have : (e.born == b) = true := by rw [hb]; simpa using Nat.eq_of_beq_eq_true hc
      rw [this]
      cases h
      exact ⟨e, rfl, hk, hv⟩
    | false =>
      rw [hc] at h
      have : (e.born == b) = false := by
        rw [hb, beq_eq_false_iff_ne]; intro x; subst x; rw [Nat.beq_refl] at hc; cases hc
      rw [this]
      exact MRs.findB hr h
theorem MRs.olds {since : Nat} : ∀ {es : List (V × V × Nat)} {us : List MapEntry}, MRs φ es us → (es.all fun x => Nat.blt x.2.2 since) = true → ∀ x ∈ us, x.born < since
  | _, _, .nil, _, x, hx => by cases hx
  | _, _, .cons (b := c) (e := e) _ _ hb hr, h, x, hx => by
    rw [List.all_cons, Bool.and_eq_true] at h
    rcases List.mem_cons.1 hx with rfl | hx
    · rw [hb]; exact Nat.le_of_ble_eq_true h.1
    · exact MRs.olds hr h.2 x hx
theorem lastNat_ok : ∀ {l : List Nat} {b : Nat}, lastNat l = some b → (⟨l⟩ : Array Nat).back? = some b
  | [], _, h => by cases h
  | [a], _, h => by cases h; rfl
  | a :: c :: l, b, h => by
    have ih := lastNat_ok (l := c :: l) (b := b) h
    simpa using ih

theorem opM_ok (hcx : CxOk P cx) (hng : cx.ng = ng) (hcall : CallOk P ng w0 call) (he : ER φ e a.tmps) (r : Rel ng w0 φ h w) {v : V}
    (hrun : opM cx call e o h c = .ok v h' c' l) (hf : Fresh φ c c') (hn : Goes ng w0 φ c c' h' v a o next) : o.wpIn (fe ro) 0 P a w next Q := by
  have v1 : ∀ {l : List Acc} {x : Operand} {k : V → M H V}, (bnd (lift "operand" (ev1 cx e x)) k) h c = .ok v h' c' l → ∃ q l', ev1 cx e x = some q ∧ VR φ q (a.eval x) ∧ k q h c = .ok v h' c' l' := fun {l x k} e0 => by
    obtain ⟨q, h1, c1, l1, l2, e1, e2, _⟩ := bnd_ok e0
    obtain ⟨hq, rfl, rfl, _⟩ := lift_ok e1
    exact ⟨q, l2, hq, ev1_ok he r hng hq, e2⟩
  have hnd : ∀ c, o.op ≠ .defer c := fun c e => by
    unfold opM at hrun
    simp only [e] at hrun
    exact fail_ok hrun
  unfold opM at hrun
  cases hop : o.op <;> simp only [hop] at hrun <;> try exact (fail_ok hrun).elim
  case move x =>
    obtain ⟨hq, rfl, rfl, _⟩ := lift_ok hrun
    exact wp_of_value hnd (by simp [execOp, hop]) (hn φ _ w (Ext.refl _ _ _) (Nat.le_refl _) r (ev1_ok he r hng hq))
  case assign x =>
    obtain ⟨hq, rfl, rfl, _⟩ := lift_ok hrun
    exact wp_of_value hnd (by simp [execOp, hop]) (hn φ _ w (Ext.refl _ _ _) (Nat.le_refl _) r (ev1_ok he r hng hq))
  case pick cnd x y =>
    obtain ⟨q, _, hevq, hq, e1⟩ := v1 hrun
    generalize hce : a.eval cnd = cu at hq
    cases hq <;> try exact (fail_ok e1).elim
    rename_i b
    cases b with
    | true =>
      obtain ⟨hx, rfl, rfl, _⟩ := lift_ok e1
      exact wp_of_value hnd (by simp [execOp, hop, hce, asBool]) (hn φ _ w (Ext.refl _ _ _) (Nat.le_refl _) r (ev1_ok he r hng hx))
    | false =>
      obtain ⟨hx, rfl, rfl, _⟩ := lift_ok e1
      exact wp_of_value hnd (by simp [execOp, hop, hce, asBool]) (hn φ _ w (Ext.refl _ _ _) (Nat.le_refl _) r (ev1_ok he r hng hx))
  case alloc t =>
    obtain ⟨z, h1, c1, l1, l2, e1, e2, _⟩ := bnd_ok hrun
    obtain ⟨hz, rfl, rfl, _⟩ := lift_ok e1
    obtain ⟨n, h2, c2, l3, l4, e3, e4, _⟩ := bnd_ok e2
    obtain ⟨rfl, rfl, rfl, _⟩ := newM_ok e3
    obtain ⟨rfl, rfl, rfl, _⟩ := ret_ok e4
    obtain ⟨zv, hzr, hzv⟩ := run_zero hcx hz φ w
    have hc := hf n (Nat.le_refl _) (Nat.lt_succ_self _)
    have hr := r.newCells (c := n) (e := t) hc hzv.cells
    refine wp_of_value hnd ?_ (hn _ (.pointer (some ⟨w.heap.size, 0, none⟩)) _ (Ext.put _ hc) (Nat.le_succ _) hr (VR.ptr (L := ⟨w.heap.size, 0, _⟩) 0 put_get))
    simp only [execOp, hop, Instr.alloc, Sem.run_bind, hzr, Result.andThen_ok, newVar, newRow, run_newObj, Sem.run_pure]; rfl
  case box t x =>
    obtain ⟨q, _, hevq, hq, e1⟩ := v1 hrun
    obtain ⟨n, h2, c2, l3, l4, e3, e4, _⟩ := bnd_ok e1
    obtain ⟨rfl, rfl, rfl, _⟩ := newM_ok e3
    obtain ⟨rfl, rfl, rfl, _⟩ := ret_ok e4
    have hc := hf n (Nat.le_refl _) (Nat.lt_succ_self _)
    have hr := r.newCells (c := n) (e := t) hc hq.cells
    refine wp_of_value hnd ?_ (hn _ (.pointer (some ⟨w.heap.size, 0, none⟩)) _ (Ext.put _ hc) (Nat.le_succ _) hr (VR.ptr (L := ⟨w.heap.size, 0, _⟩) 0 put_get))
    simp only [execOp, hop, Instr.box, Sem.run_bind, Result.andThen_ok, newVar, newRow, run_newObj, Sem.run_pure]; rfl
  case build t ps =>
    obtain ⟨qs, h1, c1, l1, l2, e1, e2, _⟩ := bnd_ok hrun
    obtain ⟨hq, rfl, rfl, _⟩ := lift_ok e1
    obtain ⟨hb, rfl, rfl, _⟩ := lift_ok e2
    obtain ⟨u, hv, hr⟩ := buildV_ok (P := P) (w := w) hcx (evParts_ok he r hng hq) hb
    refine goes_here hnd hn r hv hr ?_
    simp only [execOp, hop, arr_map]
  case buildSlice t len ps =>
    obtain ⟨qs, h1, c1, l1, l2, e1, e2, _⟩ := bnd_ok hrun
    obtain ⟨hq, rfl, rfl, _⟩ := lift_ok e1
    refine goes_value hnd hn (buildSliceM_ok hcx r (evParts_ok he r hng hq) e2 hf) ?_
    simp only [execOp, hop, arr_map]
  case insert t m k x =>
    obtain ⟨q1, _, hevq1, hq1, e1⟩ := v1 hrun
    obtain ⟨q2, _, hevq2, hq2, e1⟩ := v1 e1
    obtain ⟨q3, _, hevq3, hq3, e1⟩ := v1 e1
    obtain ⟨rfl, rfl, w', hr, hrr⟩ := mapUpdateM_ok (P := P) hcx r hq1 hq2 hq3 e1
    exact wp_of_skip hnd (by simp [execOp, hop, hrr]) (hn φ _ w' (Ext.refl _ _ _) (Nat.le_refl _) hr (.tuple .nil))
  case load t x =>
    obtain ⟨q, _, hevq, hq, e1⟩ := v1 hrun
    obtain ⟨p, h1, c1, l1, l2, e2, e3, _⟩ := bnd_ok e1
    obtain ⟨rfl, rfl, rfl⟩ := asP_ok e2
    obtain ⟨n, off⟩ := p
    obtain ⟨L, hL, hce⟩ := ptr_inv hq
    obtain ⟨rfl, rfl, K, u, hK, hv, hr⟩ := loadT_ok (P := P) hcx r e3
    rw [hL] at hK; cases hK
    refine goes_here hnd hn r hv hr ?_
    simp only [execOp, hop, Instr.loadAt, hce, Instr.sureAddr, pure_bind]
  case store t x y =>
    obtain ⟨q, _, hevq, hq, e1⟩ := v1 hrun
    obtain ⟨q2, _, hevq2, hq2, e1⟩ := v1 e1
    obtain ⟨p, h1, c1, l1, l2, e2, e3, _⟩ := bnd_ok e1
    obtain ⟨rfl, rfl, rfl⟩ := asP_ok e2
    obtain ⟨n, off⟩ := p
    obtain ⟨L, hL, hce⟩ := ptr_inv hq
    obtain ⟨u0, h2, c2, l3, l4, e4, e5, _⟩ := bnd_ok e3
    obtain ⟨rfl, K, w', hK, hr, hrr⟩ := storeT_ok (P := P) hcx r hq2 e4
    rw [hL] at hK; cases hK
    obtain ⟨rfl, rfl, rfl, _⟩ := ret_ok e5
    refine wp_of_skip hnd ?_ (hn φ _ w' (Ext.refl _ _ _) (Nat.le_refl _) hrr (.tuple .nil))
    simp only [execOp, hop, Instr.storeAt, hce, Instr.sureAddr, pure_bind, Sem.run_bind, hr, Result.andThen_ok, Sem.run_pure]
  case nilCheck x =>
    obtain ⟨q, _, hevq, hq, e1⟩ := v1 hrun
    generalize hce : a.eval x = cu at hq
    cases hq <;> try exact (fail_ok e1).elim
    case ptr n L off hL =>
      obtain ⟨rfl, rfl, rfl, _⟩ := ret_ok e1
      exact wp_of_value hnd (by simp [execOp, hop, hce]) (hn φ _ w (Ext.refl _ _ _) (Nat.le_refl _) r (.ptr _ hL))
    case func fn f1 f2 g1 g2 hf1 hf2 =>
      cases fn <;> try exact (fail_ok e1).elim
      obtain ⟨rfl, rfl, rfl, _⟩ := ret_ok e1
      exact wp_of_value hnd (by simp [execOp, hop, hce]) (hn φ _ w (Ext.refl _ _ _) (Nat.le_refl _) r (.func hf1 hf2))
    case yld n L hL =>
      obtain ⟨rfl, rfl, rfl, _⟩ := ret_ok e1
      exact wp_of_value hnd (by simp [execOp, hop, hce]) (hn φ _ w (Ext.refl _ _ _) (Nat.le_refl _) r (.yld hL))
    case iface t v2 u2 hv2 =>
      obtain ⟨rfl, rfl, rfl, _⟩ := ret_ok e1
      exact wp_of_value hnd (by simp [execOp, hop, hce]) (hn φ _ w (Ext.refl _ _ _) (Nat.le_refl _) r (.iface _ hv2))
  case binOp op t x y yt =>
    obtain ⟨q, _, hevq, hq, e1⟩ := v1 hrun
    obtain ⟨q2, _, hevq2, hq2, e1⟩ := v1 e1
    obtain ⟨rfl, rfl, u, hv, hr⟩ := binM_ok (P := P) hcx r hq hq2 e1
    refine goes_here hnd hn r hv hr ?_
    simp only [execOp, hop]
  case unOp op t x =>
    obtain ⟨q, _, hevq, hq, e1⟩ := v1 hrun
    obtain ⟨hu, rfl, rfl, _⟩ := lift_ok e1
    generalize hce : a.eval x = cu at hq
    cases hq <;> simp only [unV] at hu <;> try (cases hu; done)
    · cases op <;> simp only at hu <;> try (cases hu; done)
      cases hu
      exact wp_of_value hnd (by simp [execOp, hop, hce, Op.unary]) (hn φ _ w (Ext.refl _ _ _) (Nat.le_refl _) r (.bool _))
    · cases op <;> simp only at hu <;> try (cases hu; done)
      · cases hu
        exact wp_of_value hnd (by simp [execOp, hop, hce, Op.unary, Op.intArith]) (hn φ _ w (Ext.refl _ _ _) (Nat.le_refl _) r (.int _ _))
      · cases hu
        exact wp_of_value hnd (by simp [execOp, hop, hce, Op.unary, Op.intBits]) (hn φ _ w (Ext.refl _ _ _) (Nat.le_refl _) r (.int _ _))
  case convert s d x =>
    obtain ⟨q, _, hevq, hq, e1⟩ := v1 hrun
    exact goes_value hnd hn (convertM_ok hcx r hq e1 hf) (by simp only [execOp, hop])
  case makeInterface t x =>
    obtain ⟨q, _, hevq, hq, e1⟩ := v1 hrun
    cases hd : cx.desc t with
    | none => simp only [hd] at e1; exact (fail_ok e1).elim
    | some d =>
      simp only [hd] at e1
      cases d <;> first
        | exact (fail_ok e1).elim
        | (obtain ⟨rfl, rfl, rfl, _⟩ := ret_ok e1
           exact wp_of_value hnd (by simp [execOp, hop, Instr.makeInterface, run_und hcx hd]) (hn φ _ w (Ext.refl _ _ _) (Nat.le_refl _) r (.iface _ hq)))
  case makeFunc fn f1 f2 =>
    cases fn <;> try exact (fail_ok hrun).elim
    simp only at hrun
    obtain ⟨q1, h1, c1, l1, l2, e1, e2, _⟩ := bnd_ok hrun
    obtain ⟨hq1, rfl, rfl, _⟩ := lift_ok e1
    obtain ⟨q2, h2, c2, l3, l4, e3, e4, _⟩ := bnd_ok e2
    obtain ⟨hq2, rfl, rfl, _⟩ := lift_ok e3
    obtain ⟨rfl, rfl, rfl, _⟩ := ret_ok e4
    exact wp_of_value hnd (by simp [execOp, hop, Instr.makeFunc, arr_map]) (hn φ _ w (Ext.refl _ _ _) (Nat.le_refl _) r (.func (evs_ok he r hng hq1) (evs_ok he r hng hq2)))
  case makeMap t rs =>
    obtain ⟨u0, h1, c1, l1, l2, e1, e2, _⟩ := bnd_ok hrun
    obtain ⟨n, h2, c2, l3, l4, e3, e4, _⟩ := bnd_ok e2
    obtain ⟨rfl, rfl, rfl, _⟩ := newM_ok e3
    obtain ⟨rfl, rfl, rfl, _⟩ := ret_ok e4
    have key : h1 = h ∧ n = c ∧ (execOp a.eval o).run P w = (do let m ← newObj (.map #[] 0); pure (.value (.map (some m))) : Sem Next).run P w := by
      cases rs with
      | none =>
        obtain ⟨_, rfl, rfl, _⟩ := ret_ok e1
        exact ⟨rfl, rfl, by simp [execOp, hop, Instr.makeMap]⟩
      | some x =>
        obtain ⟨u1, h4, c4, l5, l6, e5, e6, _⟩ := bnd_ok e1
        obtain ⟨_, rfl, rfl, _⟩ := ret_ok e6
        obtain ⟨q, h5, c5, l7, l8, e7, e8, _⟩ := bnd_ok e5
        obtain ⟨hq, rfl, rfl, _⟩ := lift_ok e7
        have hqv := ev1_ok he r hng hq
        generalize hce : a.eval x = cu at hqv
        cases hqv <;> try exact (fail_ok e8).elim
        rename_i k z
        cases hd : cx.desc t with
        | none => simp only [hd] at e8; exact (fail_ok e8).elim
        | some d =>
          simp only [hd] at e8
          cases d <;> try exact (fail_ok e8).elim
          obtain ⟨_, rfl, rfl, _⟩ := ret_ok e8
          exact ⟨rfl, rfl, by simp [execOp, hop, Instr.makeMap, hce, run_und hcx hd, asInt, asIntOf]⟩
    obtain ⟨rfl, rfl, hex⟩ := key
    have hc := hf n (Nat.le_refl _) (Nat.lt_succ_self _)
    refine wp_of_value hnd (u := .map (some w.heap.size)) (w' := w.alloc (.map #[] 0)) ?_ (hn _ _ _ (Ext.put ⟨w.heap.size, 0, 0⟩ hc) (Nat.le_succ _) (r.alloc hc rfl rfl ⟨#[], rfl, .nil⟩) ?_)
    · rw [hex]; simp only [Sem.run_bind, run_newObj, Result.andThen_ok, Sem.run_pure]; rfl
    · exact .map put_get
  case makeSlice t x y =>
    obtain ⟨q, _, hevq, hq, e1⟩ := v1 hrun
    obtain ⟨q2, _, hevq2, hq2, e1⟩ := v1 e1
    exact goes_value hnd hn (makeSliceM_ok hcx r hq hq2 e1 hf) (by simp only [execOp, hop])
  case slice t x lo hi mx =>
    obtain ⟨q, _, hevq, hq, e1⟩ := v1 hrun
    obtain ⟨q1, h1, c1, l1, l2, e2, e3, _⟩ := bnd_ok e1
    obtain ⟨hq1, rfl, rfl, _⟩ := lift_ok e2
    obtain ⟨q2, h2, c2, l3, l4, e4, e5, _⟩ := bnd_ok e3
    obtain ⟨hq2, rfl, rfl, _⟩ := lift_ok e4
    obtain ⟨q3, h3, c3, l5, l6, e6, e7, _⟩ := bnd_ok e5
    obtain ⟨hq3, rfl, rfl, _⟩ := lift_ok e6
    obtain ⟨rfl, rfl, u, hv, hr⟩ := sliceM_ok (P := P) hcx r hq (evO_ok he r hng hq1) (evO_ok he r hng hq2) (evO_ok he r hng hq3) e7
    exact goes_here hnd hn r hv hr (by simp only [execOp, hop])
  case fieldAddr s x f =>
    obtain ⟨q, _, hevq, hq, e1⟩ := v1 hrun
    obtain ⟨hu, rfl, rfl, _⟩ := lift_ok e1
    obtain ⟨u, hv, hr⟩ := fieldAddrV_ok (P := P) (w := w) hcx hq hu
    exact goes_here hnd hn r hv hr (by simp only [execOp, hop])
  case field s x f =>
    obtain ⟨q, _, hevq, hq, e1⟩ := v1 hrun
    obtain ⟨hu, rfl, rfl, _⟩ := lift_ok e1
    obtain ⟨u, hv, hr⟩ := fieldV_ok (P := P) (w := w) hcx hq hu
    exact goes_here hnd hn r hv hr (by simp only [execOp, hop])
  case indexAddr t x i =>
    obtain ⟨q, _, hevq, hq, e1⟩ := v1 hrun
    obtain ⟨q2, _, hevq2, hq2, e1⟩ := v1 e1
    obtain ⟨rfl, rfl, u, hv, hr⟩ := indexAddrM_ok (P := P) (w := w) hcx hq hq2 e1
    exact goes_here hnd hn r hv hr (by simp only [execOp, hop])
  case index t x i =>
    obtain ⟨q, _, hevq, hq, e1⟩ := v1 hrun
    obtain ⟨q2, _, hevq2, hq2, e1⟩ := v1 e1
    obtain ⟨hu, rfl, rfl, _⟩ := lift_ok e1
    obtain ⟨u, hv, hr⟩ := indexV_ok (P := P) (w := w) hcx hq hq2 hu
    exact goes_here hnd hn r hv hr (by simp only [execOp, hop])
  case lookup t x i ok =>
    obtain ⟨q, _, hevq, hq, e1⟩ := v1 hrun
    obtain ⟨q2, _, hevq2, hq2, e1⟩ := v1 e1
    obtain ⟨rfl, rfl, u, hv, hr⟩ := lookupM_ok (P := P) hcx r hq hq2 e1
    exact goes_here hnd hn r hv hr (by simp only [execOp, hop])
  case mapUpdate t m k x =>
    obtain ⟨q1, _, hevq1, hq1, e1⟩ := v1 hrun
    obtain ⟨q2, _, hevq2, hq2, e1⟩ := v1 e1
    obtain ⟨q3, _, hevq3, hq3, e1⟩ := v1 e1
    obtain ⟨rfl, rfl, w', hr, hrr⟩ := mapUpdateM_ok (P := P) hcx r hq1 hq2 hq3 e1
    exact wp_of_skip hnd (by simp [execOp, hop, hrr]) (hn φ _ w' (Ext.refl _ _ _) (Nat.le_refl _) hr (.tuple .nil))
  case mapEntry t m k =>
    obtain ⟨q1, _, hevq1, hq1, e1⟩ := v1 hrun
    obtain ⟨q2, _, hevq2, hq2, e1⟩ := v1 e1
    obtain ⟨rfl, w', u, hr, hv, hrr⟩ := mapEntryM_ok (P := P) hcx r hq1 hq2 e1
    exact wp_of_value hnd (by simp [execOp, hop, hrr]) (hn φ _ w' (Ext.refl _ _ _) (Nat.le_refl _) hr hv)
  case entryStore t m s x =>
    obtain ⟨q1, _, hevq1, hq1, e1⟩ := v1 hrun
    obtain ⟨q2, _, hevq2, hq2, e1⟩ := v1 e1
    obtain ⟨q3, _, hevq3, hq3, e1⟩ := v1 e1
    obtain ⟨rfl, rfl, w', hr, hrr⟩ := entryStoreM_ok (P := P) (t := t) r hq1 hq2 hq3 e1
    exact wp_of_skip hnd (by simp [execOp, hop, hrr]) (hn φ _ w' (Ext.refl _ _ _) (Nat.le_refl _) hr (.tuple .nil))
  case range t x =>
    obtain ⟨q, _, hevq, hq, e1⟩ := v1 hrun
    generalize hce : a.eval x = cu at hq
    cases hq <;> try exact (fail_ok e1).elim
    case mapNil =>
      cases hd : cx.desc t with
      | none => simp only [hd] at e1; exact (fail_ok e1).elim
      | some d =>
        simp only [hd] at e1
        cases d <;> try exact (fail_ok e1).elim
        obtain ⟨n, h2, c2, l3, l4, e3, e4, _⟩ := bnd_ok e1
        obtain ⟨rfl, rfl, rfl, _⟩ := newM_ok e3
        obtain ⟨rfl, rfl, rfl, _⟩ := ret_ok e4
        have hc := hf n (Nat.le_refl _) (Nat.lt_succ_self _)
        refine wp_of_value hnd (u := .pointer (some ⟨w.heap.size, 0, none⟩)) (w' := w.alloc (.mapIter none 0 #[] 0)) ?_ (hn _ _ _ (Ext.put ⟨w.heap.size, 0, 0⟩ hc) (Nat.le_succ _) (r.alloc hc rfl rfl ⟨rfl, .inl ⟨rfl, _, _, _, rfl⟩⟩) (VR.ptr (L := ⟨w.heap.size, 0, _⟩) 0 put_get))
        simp [execOp, hop, Instr.range, hce, run_und hcx hd, Sem.run_bind, Result.andThen_ok]
    case map q K hK =>
      cases hd : cx.desc t with
      | none => simp only [hd] at e1; exact (fail_ok e1).elim
      | some d =>
        simp only [hd] at e1
        cases d <;> try exact (fail_ok e1).elim
        obtain ⟨ob, h1, c1, l1, l2, e2, e1, _⟩ := bnd_ok e1
        obtain ⟨hg, rfl, rfl, _⟩ := getM_ok e2
        cases ob <;> try exact (fail_ok e1).elim
        rename_i rw es ck
        obtain ⟨E, hb, hmr⟩ := map_of r hg hK
        obtain ⟨n, h2, c2, l3, l4, e3, e4, _⟩ := bnd_ok e1
        obtain ⟨rfl, rfl, rfl, _⟩ := newM_ok e3
        obtain ⟨rfl, rfl, rfl, _⟩ := ret_ok e4
        have hc := hf n (Nat.le_refl _) (Nat.lt_succ_self _)
        refine wp_of_value hnd (u := .pointer (some ⟨w.heap.size, 0, none⟩)) (w' := w.alloc (.mapIter (some K.blk) ck #[] ck)) ?_ (hn _ _ _ (Ext.put ⟨w.heap.size, 0, 0⟩ hc) (Nat.le_succ _) (r.alloc hc rfl rfl ⟨rfl, .inr ⟨q, K, rfl, (Ext.put _ hc).mono _ _ hK, rfl⟩⟩) (VR.ptr (L := ⟨w.heap.size, 0, _⟩) 0 put_get))
        simp [execOp, hop, Instr.range, hce, run_und hcx hd, Sem.run_bind, Result.andThen_ok, getObj, Sem.run, hb, Result.andThen]
    rename_i s
    cases hd : cx.desc t with
    | none => simp only [hd] at e1; exact (fail_ok e1).elim
    | some d =>
      simp only [hd] at e1
      cases d <;> try exact (fail_ok e1).elim
      obtain ⟨n, h2, c2, l3, l4, e3, e4, _⟩ := bnd_ok e1
      obtain ⟨rfl, rfl, rfl, _⟩ := newM_ok e3
      obtain ⟨rfl, rfl, rfl, _⟩ := ret_ok e4
      have hc := hf n (Nat.le_refl _) (Nat.lt_succ_self _)
      refine wp_of_value hnd (u := .pointer (some ⟨w.heap.size, 0, none⟩)) (w' := w.alloc (.stringIter ⟨⟨s⟩⟩ 0)) ?_ (hn _ _ _ (Ext.put ⟨w.heap.size, 0, 0⟩ hc) (Nat.le_succ _) (r.alloc hc rfl rfl ⟨rfl, rfl⟩) (VR.ptr (L := ⟨w.heap.size, 0, _⟩) 0 put_get))
      simp [execOp, hop, Instr.range, hce, run_und hcx hd, Sem.run_bind, Result.andThen_ok]
  case next x b =>
    cases b with
    | false =>
      obtain ⟨q, _, hevq, hq, e1⟩ := v1 hrun
      cases q <;> try exact (fail_ok e1).elim
      rename_i p
      cases p <;> try exact (fail_ok e1).elim
      rename_i p
      obtain ⟨n, off⟩ := p
      cases off <;> try exact (fail_ok e1).elim
      obtain ⟨L, hL, hce⟩ := ptr_inv hq
      obtain ⟨ob, h1, c1, l1, l2, e2, e3, _⟩ := bnd_ok e1
      obtain ⟨hg, rfl, rfl, _⟩ := getM_ok e2
      cases ob <;> try exact (fail_ok e3).elim
      rename_i m since seen last
      obtain ⟨K, hK, hob, _⟩ := r.obj _ _ hg
      rw [hL] at hK; cases hK
      obtain ⟨ho, hb⟩ := hob
      cases m with
      | none =>
        obtain ⟨rfl, rfl, rfl, _⟩ := ret_ok e3
        rcases hb with ⟨_, s1, s2, s3, hb⟩ | ⟨_, _, hb, _⟩
        · refine wp_of_value hnd (u := .tuple #[.bool false]) (w' := w) ?_ (hn φ _ _ (Ext.refl _ _ _) (Nat.le_refl _) r (.tuple (.cons (.bool _) .nil)))
          simp [execOp, hop, Instr.next, hce, ho, getObj, Sem.run_bind, Sem.run, hb, Result.andThen]
        · cases hb
      | some q =>
        rcases hb with ⟨hb, _⟩ | ⟨q', K, hq', hK, hb⟩
        · cases hb
        cases hq'
        obtain ⟨ob, h2, c2, l3, l4, e4, e5, _⟩ := bnd_ok e3
        obtain ⟨hgm, rfl, rfl, _⟩ := getM_ok e4
        cases ob <;> try exact (fail_ok e5).elim
        rename_i rw es ck
        obtain ⟨E, hbm, hmr⟩ := map_of r hgm hK
        simp only at e5
        split at e5
        rotate_left
        · exact (fail_ok e5).elim
        next hold =>
        have hleft := MRs.left (seen := seen) hmr
        have hrun2 := run_next_at (P := P) w o.type L.blk K.blk since last ⟨seen⟩ E ck hb hbm (hmr.olds hold.1) hold.2
        have hlo : (leftOf E ⟨seen⟩).toList = E.toList.filter fun e => !(⟨seen⟩ : Array Nat).contains e.born := by unfold leftOf; exact Array.toList_filter ..
        rw [← hlo] at hleft
        cases hl1 : leftV es seen with
        | nil =>
          simp only [hl1] at e5
          obtain ⟨rfl, rfl, rfl, _⟩ := ret_ok e5
          rw [hl1] at hleft
          rcases hrun2 with ⟨_, hrun2⟩ | ⟨en, hen, _⟩
          · refine wp_of_value hnd (u := .tuple #[.bool false]) (w' := w) ?_ (hn φ _ _ (Ext.refl _ _ _) (Nat.le_refl _) r (.tuple (.cons (.bool _) .nil)))
            simp [execOp, hop, hce, ho, hrun2]
          · cases hleft2 : (leftOf E ⟨seen⟩).toList with
            | nil => rw [hleft2] at hen; cases hen
            | cons _ _ => rw [hleft2] at hleft; cases hleft
        | cons x0 xs0 =>
          obtain ⟨k, v, b⟩ := x0
          cases xs0 with
          | cons _ _ => simp only [hl1] at e5; exact (fail_ok e5).elim
          | nil =>
          simp only [hl1] at e5
          obtain ⟨u0, h3, c3, l5, l6, e6, e7, _⟩ := bnd_ok e5
          obtain ⟨_, rfl, rfl, _⟩ := setM_ok e6
          obtain ⟨rfl, rfl, rfl, _⟩ := ret_ok e7
          rw [hl1] at hleft
          cases hleft2 : (leftOf E ⟨seen⟩).toList with
          | nil => rw [hleft2] at hleft; cases hleft
          | cons e0 r0 =>
          rw [hleft2] at hleft
          cases hleft with | cons hk hv hborn hr0 => ?_
          cases hr0
          rcases hrun2 with ⟨h0, _⟩ | ⟨en, hen, w1, hw1, hrun2⟩
          · rw [← Array.length_toList, hleft2] at h0; cases h0
          rw [hleft2] at hen
          have hen : en = e0 := by simpa using hen
          subst hen
          have hseen : (⟨seen⟩ : Array Nat).push en.born = ⟨seen ++ [b]⟩ := by rw [hborn]; simp
          rw [hseen] at hrun2
          rcases hw1 with rfl | rfl
          · refine wp_of_value hnd (u := .tuple #[.bool true, en.key, en.val]) (w' := World.setBlk w1 L.blk (.mapIter (some K.blk) since ⟨seen ++ [b]⟩ ck)) ?_
              (hn φ _ _ (Ext.refl _ _ _) (Nat.le_refl _) (r.setBlk hg rfl hL rfl ⟨ho, .inr ⟨q, K, rfl, hK, rfl⟩⟩) (.tuple (.cons (.bool _) (.cons hk (.cons hv .nil)))))
            simp only [execOp, hop, hce, ho, Nat.zero_add, Nat.add_zero]
            simp only [ho, Nat.zero_add, Nat.add_zero, Sem.run_bind, hrun2, Result.andThen_ok, Sem.run_pure]
            rfl
          · refine wp_of_value hnd (u := .tuple #[.bool true, en.key, en.val]) (w' := World.setBlk w.drew L.blk (.mapIter (some K.blk) since ⟨seen ++ [b]⟩ ck)) ?_
              (hn φ _ _ (Ext.refl _ _ _) (Nat.le_refl _) ((r.drew (w.drawn + 1)).setBlk hg rfl hL rfl ⟨ho, .inr ⟨q, K, rfl, hK, rfl⟩⟩) (.tuple (.cons (.bool _) (.cons hk (.cons hv .nil)))))
            simp only [execOp, hop, hce, ho, Nat.zero_add, Nat.add_zero]
            simp only [ho, Nat.zero_add, Nat.add_zero, Sem.run_bind, hrun2, Result.andThen_ok, Sem.run_pure]
            rfl
    | true =>
      obtain ⟨q, _, hevq, hq, e1⟩ := v1 hrun
      cases q <;> try exact (fail_ok e1).elim
      rename_i p
      cases p <;> try exact (fail_ok e1).elim
      rename_i p
      obtain ⟨n, off⟩ := p
      cases off <;> try exact (fail_ok e1).elim
      obtain ⟨L, hL, hce⟩ := ptr_inv hq
      obtain ⟨ob, h1, c1, l1, l2, e2, e3, _⟩ := bnd_ok e1
      obtain ⟨hg, rfl, rfl, _⟩ := getM_ok e2
      cases ob <;> try exact (fail_ok e3).elim
      rename_i s pos
      obtain ⟨K, hK, hob, _⟩ := r.obj _ _ hg
      rw [hL] at hK; cases hK
      obtain ⟨ho, hb⟩ := hob
      simp only at e3
      split at e3
      · next hlt =>
        obtain ⟨u0, h2, c2, l3, l4, e4, e5, _⟩ := bnd_ok e3
        obtain ⟨_, rfl, rfl, _⟩ := setM_ok e4
        obtain ⟨rfl, rfl, rfl, _⟩ := ret_ok e5
        refine wp_of_value hnd (u := .tuple #[.bool true, goInt pos, .int .i32 (Utf8.decode ⟨⟨s⟩⟩ pos).1]) (w' := World.setBlk w L.blk (.stringIter ⟨⟨s⟩⟩ (pos + (Utf8.decode ⟨⟨s⟩⟩ pos).2))) ?_
          (hn φ _ _ (Ext.refl _ _ _) (Nat.le_refl _) (r.setBlk hg rfl hL rfl ⟨ho, rfl⟩) (.tuple (.cons (.bool _) (.cons (.int _ _) (.cons (.int _ _) .nil)))))
        have hsz : pos < (ByteArray.mk ⟨s⟩).size := hlt
        simp [execOp, hop, Instr.next, hce, ho, getObj, Sem.run_bind, Sem.run, hb, Result.andThen, hsz, setObj, World.setBlk]
      · next hlt =>
        obtain ⟨rfl, rfl, rfl, _⟩ := ret_ok e3
        refine wp_of_value hnd (u := .tuple #[.bool false]) (w' := w) ?_ (hn φ _ _ (Ext.refl _ _ _) (Nat.le_refl _) r (.tuple (.cons (.bool _) .nil)))
        have hsz : ¬ pos < (ByteArray.mk ⟨s⟩).size := hlt
        simp [execOp, hop, Instr.next, hce, ho, getObj, Sem.run_bind, Sem.run, hb, Result.andThen, hsz]
  case entry x =>
    obtain ⟨q, _, hevq, hq, e1⟩ := v1 hrun
    cases q <;> try exact (fail_ok e1).elim
    rename_i p
    cases p <;> try exact (fail_ok e1).elim
    rename_i p
    obtain ⟨n, off⟩ := p
    cases off <;> try exact (fail_ok e1).elim
    obtain ⟨L, hL, hce⟩ := ptr_inv hq
    obtain ⟨ob, h1, c1, l1, l2, e2, e3, _⟩ := bnd_ok e1
    obtain ⟨hg, rfl, rfl, _⟩ := getM_ok e2
    cases ob <;> try exact (fail_ok e3).elim
    rename_i m since seen last
    cases m <;> try exact (fail_ok e3).elim
    rename_i q
    obtain ⟨K, hK, hob, _⟩ := r.obj _ _ hg
    rw [hL] at hK; cases hK
    obtain ⟨ho, hb⟩ := hob
    rcases hb with ⟨hb, _⟩ | ⟨q', K, hq', hK, hb⟩
    · cases hb
    cases hq'
    obtain ⟨ob, h2, c2, l3, l4, e4, e5, _⟩ := bnd_ok e3
    obtain ⟨hgm, rfl, rfl, _⟩ := getM_ok e4
    cases ob <;> try exact (fail_ok e5).elim
    rename_i rw es ck
    obtain ⟨E, hbm, hmr⟩ := map_of r hgm hK
    simp only at e5
    split at e5
    rotate_left
    · exact (fail_ok e5).elim
    next hck =>
    subst hck
    cases hlast : lastNat seen with
    | none => simp only [hlast] at e5; exact (fail_ok e5).elim
    | some b =>
      simp only [hlast] at e5
      cases hfb : findB b es with
      | none => simp only [hfb] at e5; exact (fail_ok e5).elim
      | some kv =>
        obtain ⟨k, v⟩ := kv
        simp only [hfb] at e5
        obtain ⟨rfl, rfl, rfl, _⟩ := ret_ok e5
        obtain ⟨en, hf1, hk, hv⟩ := hmr.findB hfb
        have hf2 : E.find? (·.born == b) = some en := by rw [← Array.find?_toList]; exact hf1
        have hback := lastNat_ok hlast
        refine wp_of_value hnd (u := .tuple #[en.key, en.val]) (w' := w) ?_ (hn φ _ _ (Ext.refl _ _ _) (Nat.le_refl _) r (.tuple (.cons hk (.cons hv .nil))))
        simp only [execOp, hop, hce, ho, Nat.zero_add, Nat.add_zero]
        simp only [Instr.entry, getObj, Sem.run_bind, Sem.run, hb, hbm, Result.andThen, hback, bne_self_eq_false, Bool.false_eq_true, if_false, hf2]
        rfl
  case typeAssert x xt t ok =>
    obtain ⟨q, _, hevq, hq, e1⟩ := v1 hrun
    obtain ⟨hh, hcc, u, hv, hr⟩ := assertM_ok (P := P) (w := w) (xt := xt) hcx hq e1
    rw [hh, hcc] at hn
    exact goes_here hnd hn r hv hr (by simp only [execOp, hop])
  case extract x i =>
    obtain ⟨q, _, hevq, hq, e1⟩ := v1 hrun
    generalize hce : a.eval x = cu at hq
    cases hq <;> try exact (fail_ok e1).elim
    rename_i vs us hvs
    obtain ⟨hu, rfl, rfl, _⟩ := lift_ok e1
    rw [nth_eq] at hu
    obtain ⟨u, h1, h2⟩ := hvs.get hu
    refine goes_here hnd hn r h2 (s := Instr.extract (.tuple ⟨us⟩) i) ?_ (by simp only [execOp, hop, hce])
    have : (⟨us⟩ : Array Value)[i]? = some u := by simpa using h1
    simp only [Instr.extract, this, Sem.run_pure]
  case call cl => exact callM_ok hcx hng hcall he r hop hrun hf hn
end
end Go.Ab
