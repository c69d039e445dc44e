/- The abstract evaluator against the model: one operation. -/
import Derived.Test.YtcenbfjhhaialaaAc13
import Derived.Maps.RangeRun
import Derived.OrdersIn
import Derived.RangeFuncSeq
set_option linter.unusedVariables false
set_option linter.unusedSectionVars false
set_option linter.unusedSimpArgs false
set_option linter.unnecessarySimpa false
namespace Go.Ab
open Go.RowKit

/-- The frame's kind: of a function, or of a round of the loop that lies there; no other condition. -/
def fe (ro : Option Nat) : Fence := { Fence.wide with round := ro }

theorem callsIn_fe {ro : Option Nat} {n : Nat} {P : Program} {f : FuncId} {args : Array Value} {w : World} {R : Ending → World → Prop} : CallsIn (fe ro) n P f args w R ↔ Calls P f args w R :=
  (Iff.rfl : CallsIn (fe ro) n P f args w R ↔ CallsIn Fence.wide n P f args w R).trans callsIn_wide

/-- What a call comes to: a function is entered and returns, or it answers at once; a round is gone through. -/
def Answers (P : Program) (φ : Nm) (t : Tgt) (xs : Array Value) (w : World) (R : Value → World → Prop) : Prop :=
  match t with
  | .fn f =>
    ((callFunc f xs).run P w = .ok (.enter f xs) w ∧ Calls P f xs w fun e w' => ∃ u, e = .returned u ∧ R u w') ∨
    (∃ u w', (callFunc f xs).run P w = .ok (.value u) w' ∧ R u w')
  | .yl n => ∃ L, φ n = some L ∧ YieldAt Fence.wide 0 P L.blk xs w fun e w' => ∃ u, e = .returned u ∧ R u w'

section
variable {H : Type} [MapI H AObj]

/-- Calls are answered as the model answers them. -/
def CallOk (P : Program) (ng : Nat) (w0 : World) (call : Tgt → List V → M H V) : Prop :=
  ∀ t xs h c v h' c' l φ w xs', call t xs h c = .ok v h' c' l → Rel ng w0 φ h w → VRs φ xs xs' → Fresh φ c c' →
    Answers P φ t ⟨xs'⟩ w fun u w' => ∃ φ', Ext φ φ' c c' ∧ c ≤ c' ∧ Rel ng w0 φ' h' w' ∧ VR φ' v u
end

section
variable {H E : Type} [MapI H AObj] [MapI E V] {P : Program} {ng : Nat} {w0 w : World} {φ : Nm} {h h' : H} {c c' : Nat} {l : List Acc}

/-- The frame: what the evaluator knows of a slot is there. -/
def ER (φ : Nm) (e : E) (ts : Array Value) : Prop := ∀ t v, MapI.get e t = some v → ∃ u, ts[t]? = some u ∧ VR φ v u

theorem ER.mono {φ φ' : Nm} (hm : ∀ n L, φ n = some L → φ' n = some L) {e : E} {ts : Array Value} (r : ER φ e ts) : ER φ' e ts := fun t v hv => by
  obtain ⟨u, h1, h2⟩ := r t v hv; exact ⟨u, h1, h2.mono hm⟩

variable {a : Act} {e : E} {cx : Cx}

theorem ev1_ok (he : ER φ e a.tmps) (r : Rel ng w0 φ h w) (hng : cx.ng = ng) {x : Operand} {v : V} (hv : ev1 cx e x = some v) : VR φ v (a.eval x) := by
  cases x with
  | tmp t =>
    obtain ⟨u, h1, h2⟩ := he t v hv
    have : a.eval (.tmp t) = u := by simp [Act.eval, Array.getD_eq_getD_getElem?, h1]
    rw [this]; exact h2
  | const c => exact toV_ok hv
  | global g =>
    have hv : (if g < cx.ng then some (V.ptr (some (g, 0))) else none) = some v := hv
    split at hv
    · next hg =>
      cases hv
      obtain ⟨L, h1, h2, h3⟩ := r.glob g (by rw [← hng]; exact hg)
      have := VR.ptr (φ := φ) 0 h1
      rw [h2, h3] at this; exact this
    · cases hv
  | func f =>
    have hv : some (V.func (.func f) [] []) = some v := hv
    cases hv; exact .func .nil .nil
theorem evs_ok (he : ER φ e a.tmps) (r : Rel ng w0 φ h w) (hng : cx.ng = ng) : ∀ {xs : List Operand} {vs : List V}, evs cx e xs = some vs → VRs φ vs (xs.map a.eval)
  | [], vs, hv => by unfold evs at hv; cases hv; exact .nil
  | x :: xs, vs, hv => by
    unfold evs at hv
    split at hv
    · cases hv
    · next v h1 =>
      split at hv
      · cases hv
      · next ws h2 => cases hv; exact .cons (ev1_ok he r hng h1) (evs_ok he r hng h2)
theorem evParts_ok (he : ER φ e a.tmps) (r : Rel ng w0 φ h w) (hng : cx.ng = ng) : ∀ {xs : List (Nat × Operand)} {vs : List (Nat × V)}, evParts cx e xs = some vs → PRs φ vs (xs.map fun (i, x) => (i, a.eval x))
  | [], vs, hv => by unfold evParts at hv; cases hv; exact .nil
  | (i, x) :: xs, vs, hv => by
    unfold evParts at hv
    split at hv
    · cases hv
    · next v h1 =>
      split at hv
      · cases hv
      · next ws h2 => cases hv; exact .cons (ev1_ok he r hng h1) (evParts_ok he r hng h2)
theorem evO_ok (he : ER φ e a.tmps) (r : Rel ng w0 φ h w) (hng : cx.ng = ng) {x : Option Operand} {v : Option V} (hv : evO cx e x = some v) : VRo φ v (x.map a.eval) := by
  unfold evO at hv
  cases x with
  | none => cases hv; exact .none
  | some x =>
    simp only at hv
    split at hv
    · next v' h1 => cases hv; exact .some (ev1_ok he r hng h1)
    · cases hv

theorem arr_map {α β : Type} (xs : Array α) (f : α → β) : xs.map f = ⟨xs.toList.map f⟩ := by apply Array.ext'; simp

variable {o : Oper} {next : Act → World → Prop} {Q : Exit → Act → World → Prop}

variable {ro : Option Nat}

theorem wp_of_run {x : Result Next} (hnd : ∀ c, o.op ≠ .defer c) (hr : (execOp a.eval o).run P w = x) (hn : o.uponIn (fe ro) 0 P a next Q x) : o.wpIn (fe ro) 0 P a w next Q := by
  unfold Oper.wpIn
  refine ⟨fun _ _ => trivial, ?_⟩
  rw [show (fe ro).round = ro from rfl, Oper.semAt_eq ro a.eval o hnd, hr]; exact hn
theorem wp_of_value {u : Value} {w' : World} (hnd : ∀ c, o.op ≠ .defer c) (hr : (execOp a.eval o).run P w = .ok (.value u) w') (hn : next (a.put o.dst u) w') : o.wpIn (fe ro) 0 P a w next Q :=
  wp_of_run hnd hr hn
theorem wp_of_skip {w' : World} (hnd : ∀ c, o.op ≠ .defer c) (hr : (execOp a.eval o).run P w = .ok .skip w') (hn : next (a.put o.dst undef) w') : o.wpIn (fe ro) 0 P a w next Q :=
  wp_of_run hnd hr hn
theorem wp_of_answers {f : Nat} {xs : Array Value} {R : Value → World → Prop} {φ : Nm} (hnd : ∀ c, o.op ≠ .defer c) (hr : (execOp a.eval o).run P w = (callFunc f xs).run P w) (ha : Answers P φ (.fn f) xs w R)
    (hn : ∀ u w', R u w' → next (a.put o.dst u) w') : o.wpIn (fe ro) 0 P a w next Q := by
  rcases ha with ⟨h1, h2⟩ | ⟨u, w', h1, h2⟩
  · refine wp_of_run hnd (hr.trans h1) ?_
    rw [Oper.uponIn_enter]
    refine ⟨fun h => (by cases h), callsIn_fe.2 (h2.mono fun e w' ⟨u, he, hR⟩ => ?_)⟩
    subst he; exact hn u w' hR
  · exact wp_of_run hnd (hr.trans h1) (hn u w' h2)
theorem wp_of_yield {l : Nat} {xs : Array Value} {R : Value → World → Prop} {φ : Nm} {n : Nat} {L : Loc} (hnd : ∀ c, o.op ≠ .defer c) (hL : φ n = some L) (hl : l = L.blk) (hr : (execOp a.eval o).run P w = (Instr.yield l xs).run P w)
    (ha : Answers P φ (.yl n) xs w R) (hn : ∀ u w', R u w' → next (a.put o.dst u) w') : o.wpIn (fe ro) 0 P a w next Q := by
  obtain ⟨K, hK, fn, tmps, assign, body, h1, h2⟩ := ha
  rw [hL] at hK; cases hK
  subst hl
  refine wp_of_run hnd (hr.trans h1) ?_
  rw [Oper.uponIn_round]
  refine ⟨fun h => (by cases h), RoundIn.mono (R := fun e w' => ∃ u, e = .returned u ∧ R u w') h2 fun e w' ⟨u, he, hR⟩ => ?_⟩
  subst he; exact hn u w' hR

theorem VRs.inv {x : V} {xs : List V} {us : List Value} (hx : VRs φ (x :: xs) us) : ∃ u us', us = u :: us' ∧ VR φ x u ∧ VRs φ xs us' := by
  cases hx with
  | cons a b => exact ⟨_, _, rfl, a, b⟩

theorem clearM_ok (hcx : CxOk P cx) (r : Rel ng w0 φ h w) {t ty : Nat} {x v : V} {x' : Value} {ts : List Nat} {xs : List Value} (hx : VR φ x x') (e : clearM cx t x h c = .ok v h' c' l) :
    c' = c ∧ v = .tuple [] ∧ ∃ w', Rel ng w0 φ h' w' ∧ (Builtin.clear_ ⟨t :: ts⟩ ty ⟨x' :: xs⟩).run P w = .ok (.tuple #[]) w' := by
  unfold clearM at e
  cases hd : cx.desc t with
  | none => simp only [hd] at e; exact (fail_ok e).elim
  | some d =>
    have hu := desc_ok hcx hd
    simp only [hd] at e
    cases d <;> try exact (fail_ok e).elim
    rename_i el
    cases x <;> try exact (fail_ok e).elim
    rename_i a n cap
    cases a with
    | none =>
      cases hx with | sliceNil => ?_
      obtain ⟨rfl, rfl, rfl, _⟩ := ret_ok e
      exact ⟨rfl, rfl, w, r, by simp [Builtin.clear_, run_underlying hu]⟩
    | some p =>
      obtain ⟨m, o⟩ := p
      simp only at e
      have main : ∀ (L : Loc) (cp : Nat), φ m = some L → x' = .slice (some ⟨L.blk, L.off + o, none⟩) n cp → n ≠ 0 → c' = c ∧ v = .tuple [] ∧ ∃ w', Rel ng w0 φ h' w' ∧ (Builtin.clear_ ⟨t :: ts⟩ ty ⟨x' :: xs⟩).run P w = .ok (.tuple #[]) w' := by
        intro L cp hL hx' hn
        subst hx'
        rw [if_neg hn] at e
        obtain ⟨z, h1, c1, l1, l2, e1, e2, _⟩ := bnd_ok e
        obtain ⟨hz, rfl, rfl, _⟩ := lift_ok e1
        obtain ⟨i, zv, hi, hiz, hpos, hzs, hzl, hzr⟩ := zeroRow_ok hcx hz
        split at e2
        rotate_left
        · exact (fail_ok e2).elim
        next h1z =>
        obtain ⟨u, h2, c2, l3, l4, e3, e4, _⟩ := bnd_ok e2
        obtain ⟨rfl, rfl, rfl, _⟩ := ret_ok e4
        obtain ⟨hcc, K, w', hK, hrun, hr'⟩ := storeC_ok (P := P) r (hzr φ) e3
        rw [hL] at hK; cases hK
        refine ⟨hcc, rfl, w', hr', ?_⟩
        have hzz : Builtin.zeroCells zv.cells n = (Array.range (n * i.size)).map (fun j => zv.cells[j % zv.cells.size]!) := by unfold Builtin.zeroCells; rw [hzs]
        have hzero : (zeroValue el).run P w = .ok zv w := by simp [zeroValue, run_typeInfo w hi, hiz]
        cases n with
        | zero => exact absurd rfl hn
        | succ n =>
          simp only [Builtin.clear_, List.getElem?_toArray, List.getElem?_cons_zero, Sem.run_bind, run_underlying hu, Result.andThen_ok, hzero, hzz, hrun, Sem.run_pure]
      have zero : n = 0 → (∃ (A : Addr) (cp : Nat), x' = .slice (some A) 0 cp) → c' = c ∧ v = .tuple [] ∧ ∃ w', Rel ng w0 φ h' w' ∧ (Builtin.clear_ ⟨t :: ts⟩ ty ⟨x' :: xs⟩).run P w = .ok (.tuple #[]) w' := by
        intro hn ⟨A, cp, hx'⟩
        subst hx'
        rw [if_pos hn] at e
        obtain ⟨rfl, rfl, rfl, _⟩ := ret_ok e
        exact ⟨rfl, rfl, w, r, by simp [Builtin.clear_, run_underlying hu]⟩
      by_cases hn : n = 0
      · subst hn
        refine zero rfl ?_
        cases hx <;> exact ⟨_, _, rfl⟩
      · cases hx with
        | sliceK o len k hL hk => exact main _ _ hL rfl hn
        | sliceK0 o a hL => exact absurd rfl hn
        | sliceU o len cap sz hL h1 h2 h3 => exact main _ _ hL rfl hn
        | sliceZ o sz a hL h1 h2 => exact absurd rfl hn
theorem capM_ok (hcx : CxOk P cx) {t ty : Nat} {x v : V} {x' : Value} {ts : List Nat} {xs : List Value} (hx : VR φ x x') (e : capM cx t x h c = .ok v h' c' l) :
    h' = h ∧ c' = c ∧ ∃ u, VR φ v u ∧ (Builtin.cap_ ⟨t :: ts⟩ ty ⟨x' :: xs⟩).run P w = .ok u w := by
  unfold capM at e
  cases hd : cx.desc t with
  | none => simp only [hd] at e; exact (fail_ok e).elim
  | some d =>
    have hu := desc_ok hcx hd
    simp only [hd] at e
    cases d <;> try exact (fail_ok e).elim
    cases hx <;> try exact (fail_ok e).elim
    all_goals
      obtain ⟨rfl, rfl, rfl, _⟩ := ret_ok e
      exact ⟨rfl, rfl, _, .int _ _, by simp [Builtin.cap_, run_underlying hu, goInt]⟩
theorem builtinM_ok (hcx : CxOk P cx) (r : Rel ng w0 φ h w) {b : Builtin} {ts : List Nat} {xs : List V} {xs' : List Value} {v : V} {ty : Nat} {cs : Array Bool} (hx : VRs φ xs xs')
    (e : builtinM cx b ts xs h c = .ok v h' c' l) (hf : Fresh φ c c') :
    ∃ φ' u w', Ext φ φ' c c' ∧ c ≤ c' ∧ Rel ng w0 φ' h' w' ∧ VR φ' v u ∧ (builtin b ⟨ts⟩ ty cs ⟨xs'⟩).run P w = .ok (.value u) w' := by
  have no : (fail "builtin" : M H V) h c = .ok v h' c' l → False := fun e => fail_ok e
  have noA : (fail "append: arguments" : M H V) h c = .ok v h' c' l → False := fun e => fail_ok e
  cases b <;> try exact (no e).elim
  case append =>
    have e : appendM cx ts xs h c = .ok v h' c' l := e
    cases ts with
    | nil => exact (noA e).elim
    | cons st xt =>
      cases xs with
      | nil => exact (noA e).elim
      | cons s xs =>
        cases xs with
        | nil => exact (noA e).elim
        | cons x xs =>
          obtain ⟨s', us, rfl, hs, hx⟩ := hx.inv
          obtain ⟨x', us, rfl, hx, hr⟩ := hx.inv
          exact (appendM_ok (ty := ty) hcx r hs hx e hf).value
  case len =>
    cases ts with
    | nil => exact (no e).elim
    | cons t ts =>
      cases xs with
      | nil => exact (no e).elim
      | cons x xs =>
        obtain ⟨x', us, rfl, hx, hr⟩ := hx.inv
        have e1 : lenM cx t x h c = .ok v h' c' l := e
        clear e no noA
        obtain ⟨hh, hcc, u, hv, hrun⟩ := lenM_ok (P := P) (ty := ty) (ts := ts) (xs := us) hcx r hx e1
        rw [hh, hcc]
        exact (Done.here r hv hrun).value
  case copy =>
    cases ts with
    | nil => exact (no e).elim
    | cons t ts =>
      cases xs with
      | nil => exact (no e).elim
      | cons d xs =>
        cases xs with
        | nil => exact (no e).elim
        | cons s xs =>
          obtain ⟨d', us, rfl, hd, hx⟩ := hx.inv
          obtain ⟨s', us, rfl, hs, hr⟩ := hx.inv
          have e1 : copyM cx t d s h c = .ok v h' c' l := e
          clear e no noA
          obtain ⟨hcc, w', u, hr', hv, hrun⟩ := copyM_ok (P := P) (ty := ty) (ts := ts) (rest := us) hcx r hd hs e1
          rw [hcc]
          exact ⟨φ, u, w', Ext.refl _ _ _, Nat.le_refl _, hr', hv, by simp only [builtin, Sem.run_bind, hrun, Result.andThen_ok, Sem.run_pure]⟩
  case delete =>
    cases ts with
    | nil => exact (no e).elim
    | cons t ts =>
      cases xs with
      | nil => exact (no e).elim
      | cons m xs =>
        cases xs with
        | nil => exact (no e).elim
        | cons k xs =>
          obtain ⟨m', us, rfl, hm, hx⟩ := hx.inv
          obtain ⟨k', us, rfl, hk, hr⟩ := hx.inv
          have e1 : deleteM cx t m k h c = .ok v h' c' l := e
          clear e no noA
          obtain ⟨hcc, hvv, w', hr', hrun⟩ := deleteM_ok (P := P) (ty := ty) (ts := ts) (xs := us) hcx r hm hk e1
          rw [hcc, hvv]
          exact ⟨φ, _, w', Ext.refl _ _ _, Nat.le_refl _, hr', .tuple .nil, by simp only [builtin, Sem.run_bind, hrun, Result.andThen_ok, Sem.run_pure]⟩
  case clear =>
    cases ts with
    | nil => exact (no e).elim
    | cons t ts =>
      cases xs with
      | nil => exact (no e).elim
      | cons x xs =>
        obtain ⟨x', us, rfl, hx, hr⟩ := hx.inv
        have e1 : clearM cx t x h c = .ok v h' c' l := e
        clear e no noA
        obtain ⟨hcc, hvv, w', hr', hrun⟩ := clearM_ok (P := P) (ty := ty) (ts := ts) (xs := us) hcx r hx e1
        rw [hcc, hvv]
        exact ⟨φ, _, w', Ext.refl _ _ _, Nat.le_refl _, hr', .tuple .nil, by simp only [builtin, Sem.run_bind, hrun, Result.andThen_ok, Sem.run_pure]⟩
  case cap =>
    cases ts with
    | nil => exact (no e).elim
    | cons t ts =>
      cases xs with
      | nil => exact (no e).elim
      | cons x xs =>
        obtain ⟨x', us, rfl, hx, hr⟩ := hx.inv
        have e1 : capM cx t x h c = .ok v h' c' l := e
        clear e no noA
        obtain ⟨hh, hcc, u, hv, hrun⟩ := capM_ok (P := P) (w := w) (ty := ty) (ts := ts) (xs := us) hcx hx e1
        rw [hh, hcc]
        exact (Done.here r hv hrun).value
  case min =>
    have e1 : (lift "min" (minV xs) : M H V) h c = .ok v h' c' l := e
    clear e no noA
    obtain ⟨e1, hh, hcc, _⟩ := lift_ok e1
    rw [hh, hcc]
    obtain ⟨u, hv, hrun⟩ := minV_ok (P := P) (w := w) (ts := ⟨ts⟩) (ty := ty) hx e1
    exact (Done.here r hv hrun).value
  case max =>
    have e1 : (lift "max" (maxV xs) : M H V) h c = .ok v h' c' l := e
    clear e no noA
    obtain ⟨e1, hh, hcc, _⟩ := lift_ok e1
    rw [hh, hcc]
    obtain ⟨u, hv, hrun⟩ := maxV_ok (P := P) (w := w) (ts := ⟨ts⟩) (ty := ty) hx e1
    exact (Done.here r hv hrun).value
end
end Go.Ab
