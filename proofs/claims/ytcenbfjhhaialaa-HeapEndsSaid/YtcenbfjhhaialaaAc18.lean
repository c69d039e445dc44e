/- The abstract evaluator against the model: regions. -/
import Derived.Test.YtcenbfjhhaialaaAc17
set_option linter.unusedVariables false
set_option linter.unusedSectionVars false
set_option linter.unusedSimpArgs false
set_option linter.unnecessarySimpa false
namespace Go.Ab
open Go.RowKit

section
variable {H E : Type} [MapI H AObj] [MapI E V] {P : Program} {ng : Nat} {w0 : World} {cx : Cx} {call : Tgt → List V → M H V} {ro : Option Nat}

def putF (e : E) (d : Option Tmp) (v : V) : E :=
  match d with
  | none => e
  | some d => MapI.set e d v

theorem ER.put {φ : Nm} {e : E} {a : Act} {N : Nat} (r : ER φ e a.tmps) (hs : a.tmps.size = N) {d : Option Tmp} (hd : ∀ t, d = some t → t < N) {v : V} {u : Value} (hv : VR φ v u) :
    ER φ (putF e d v) (a.put d u).tmps := by
  cases d with
  | none => exact r
  | some d =>
    have hlt := hd d rfl
    intro t x hx
    show ∃ u', (a.tmps.setIfInBounds d u)[t]? = some u' ∧ VR φ x u'
    have hx : MapI.get (MapI.set e d v) t = some x := hx
    by_cases h : d = t
    · subst h
      rw [MapI.get_same] at hx; cases hx
      have hlt' : d < a.tmps.size := by rw [hs]; exact hlt
      exact ⟨u, by rw [Array.getElem?_setIfInBounds_self_of_lt hlt'], hv⟩
    · rw [MapI.get_ne _ _ _ _ h] at hx
      obtain ⟨u', h1, h2⟩ := r t x hx
      exact ⟨u', by rw [Array.getElem?_setIfInBounds_ne h]; exact h1, h2⟩
theorem put_size {a : Act} {d : Option Tmp} {u : Value} : (a.put d u).tmps.size = a.tmps.size := by
  cases d
  · rfl
  · exact Array.size_setIfInBounds
theorem put_defers {a : Act} {d : Option Tmp} {u : Value} : (a.put d u).defers = a.defers := by cases d <;> rfl

theorem wanted_ok {φ : Nm} {e : E} {a : Act} (he : ER φ e a.tmps) {ops : Array Oper} {o : Oper} {b : Bool} (h : wantedV ops.toList e o = some b) :
    Region.wanted o (yielded ops a.tmps) = b := by
  unfold wantedV at h
  unfold Region.wanted
  cases hg : o.guard with
  | none => rw [hg] at h; cases h; rfl
  | some jw =>
    obtain ⟨j, want⟩ := jw
    rw [hg] at h
    have hd : dstOf ops.toList j = (ops[j]?).bind (·.dst) := by
      unfold dstOf
      rw [nth_eq]
      have : ops.toList[j]? = ops[j]? := by simp
      rw [this]
      cases ops[j]? <;> rfl
    simp only [hd] at h
    simp only
    unfold yielded
    cases hq : (ops[j]?).bind (·.dst) with
    | none => rw [hq] at h; cases h; rfl
    | some d =>
      rw [hq] at h
      simp only at h
      cases hv : MapI.get e d with
      | none => rw [hv] at h; cases h
      | some v =>
        rw [hv] at h
        obtain ⟨u, h1, h2⟩ := he d v hv
        simp only [Option.bind_some, h1]
        cases h2 <;> cases h <;> rfl

/-- One operation, in the text's order. -/
def StepAt (cx : Cx) (call : Tgt → List V → M H V) (N : Nat) (ops : List Oper) (o : Oper) (e : E) (h : H) (c : Nat) (e' : E) (h' : H) (c' : Nat) (l : List Acc) : Prop :=
  (∀ d, o.dst = some d → d < N) ∧ ∃ v, e' = putF e o.dst v ∧
    ((wantedV ops e o = some true ∧ opM cx call e o h c = .ok v h' c' l) ∨ (wantedV ops e o = some false ∧ v = undefV ∧ h' = h ∧ c' = c ∧ l = []))

theorem putE_ok {N : Nat} {e e' : E} {d : Option Tmp} {v : V} {h h' : H} {c c' : Nat} {l : List Acc} (h0 : putE N e d v h c = .ok e' h' c' l) :
    (∀ t, d = some t → t < N) ∧ e' = putF e d v ∧ h' = h ∧ c' = c ∧ l = [] := by
  unfold putE at h0
  cases d with
  | none => obtain ⟨rfl, rfl, rfl, rfl⟩ := ret_ok h0; exact ⟨fun t ht => (by cases ht), rfl, rfl, rfl, rfl⟩
  | some d =>
    simp only at h0
    split at h0
    · next hlt => obtain ⟨rfl, rfl, rfl, rfl⟩ := ret_ok h0; exact ⟨fun t ht => (by cases ht; exact hlt), rfl, rfl, rfl, rfl⟩
    · exact (fail_ok h0).elim
theorem stepOp_ok {N : Nat} {ops : List Oper} {o : Oper} {e e' : E} {h h' : H} {c c' : Nat} {l : List Acc} (h0 : stepOp cx call N ops o e h c = .ok e' h' c' l) :
    StepAt cx call N ops o e h c e' h' c' l := by
  unfold stepOp at h0
  cases hw : wantedV ops e o with
  | none => rw [hw] at h0; exact (fail_ok h0).elim
  | some b =>
  rw [hw] at h0
  cases b
  case true =>
    obtain ⟨v, h1, c1, l1, l2, e1, e2, rfl⟩ := bnd_ok h0
    obtain ⟨hN, rfl, rfl, rfl, rfl⟩ := putE_ok e2
    exact ⟨hN, v, rfl, .inl ⟨hw, by rw [List.append_nil]; exact e1⟩⟩
  case false =>
    obtain ⟨hN, rfl, rfl, rfl, rfl⟩ := putE_ok h0
    exact ⟨hN, _, rfl, .inr ⟨hw, rfl, rfl, rfl, rfl⟩⟩

theorem evLog_run {N : Nat} {ops : List Oper} : ∀ {l : List Oper} {e e' : E} {h h' : H} {c c' : Nat} {logs : List (List Acc)} {al : List Acc}, evLog cx call N ops l e h c = .ok (e', logs) h' c' al →
    ∃ (es : Nat → E) (hs : Nat → H) (cs : Nat → Nat) (lg : Nat → List Acc), es 0 = e ∧ hs 0 = h ∧ cs 0 = c ∧ es l.length = e' ∧ hs l.length = h' ∧ cs l.length = c' ∧
      (∀ i, i < l.length → logs[i]? = some (lg i)) ∧ ∀ i o, l[i]? = some o → StepAt cx call N ops o (es i) (hs i) (cs i) (es (i + 1)) (hs (i + 1)) (cs (i + 1)) (lg i)
  | [], e, e', h, h', c, c', logs, al, h0 => by
    unfold evLog at h0
    obtain ⟨hr, rfl, rfl, _⟩ := ret_ok h0
    cases hr
    exact ⟨fun _ => e, fun _ => h', fun _ => c', fun _ => [], rfl, rfl, rfl, rfl, rfl, rfl, fun i hi => by simp at hi, fun i o ho => by simp at ho⟩
  | o :: l, e, e', h, h', c, c', logs, al, h0 => by
    unfold evLog at h0
    obtain ⟨⟨e1, a1⟩, h1, c1, l1, l2, x1, x2, _⟩ := bnd_ok h0
    simp only at x2
    obtain ⟨⟨e2, a2⟩, h2, c2, l3, l4, x3, x4, _⟩ := bnd_ok x2
    obtain ⟨hr, rfl, rfl, _⟩ := ret_ok x4
    simp only at hr
    cases hr
    have x5 : stepOp cx call N ops o e h c = .ok e1 h1 c1 a1 := by
      unfold listen at x1
      cases q : stepOp cx call N ops o e h c with
      | err s => rw [q] at x1; cases x1
      | ok a b d f => rw [q] at x1; cases x1; rfl
    obtain ⟨es, hs, cs, lg, y1, y2, y3, y4, y5, y6, y7, y8⟩ := evLog_run x3
    refine ⟨fun i => match i with | 0 => e | i + 1 => es i, fun i => match i with | 0 => h | i + 1 => hs i, fun i => match i with | 0 => c | i + 1 => cs i, fun i => match i with | 0 => a1 | i + 1 => lg i,
      rfl, rfl, rfl, y4, y5, y6, fun i hi => ?_, fun i o' ho => ?_⟩
    · cases i with
      | zero => rfl
      | succ i => exact y7 i (by simpa using hi)
    · cases i with
      | zero =>
        cases ho
        simp only
        rw [y1, y2, y3]
        exact stepOp_ok x5
      | succ i => exact y8 i o' ho

def Wr (l : List Acc) (n : Nat) : Prop := ∃ x ∈ l, x.name = n ∧ x.writes = true

theorem Rel.same {φ : Nm} {h h' : H} {w : World} (hh : ∀ n, MapI.get h' n = MapI.get h n) (r : Rel ng w0 φ h w) : Rel ng w0 φ h' w :=
  ⟨r.below, fun n o hn => r.obj n o (by rw [← hh]; exact hn), fun n m o p L K hnm hn hm => r.apart n m o p L K hnm (by rw [← hh]; exact hn) (by rw [← hh]; exact hm), r.glob⟩
theorem Ext.trans2 {φ φ' φ'' : Nm} {a b : Nat} (h : Ext φ φ' a b) (k : Ext φ' φ'' a b) : Ext φ φ'' a b :=
  ⟨fun n L e => k.mono n L (h.mono n L e), fun n e => by
    by_cases x : φ'' n = φ' n
    · exact h.only n (by rw [← x]; exact e)
    · exact k.only n x⟩

/-- The run in the text's order. -/
structure RunD (cx : Cx) (call : Tgt → List V → M H V) (N : Nat) (ops : List Oper) (es : Nat → E) (hs : Nat → H) (cs : Nat → Nat) (lg : Nat → List Acc) : Prop where
  step : ∀ i o, ops[i]? = some o → StepAt cx call N ops o (es i) (hs i) (cs i) (es (i + 1)) (hs (i + 1)) (cs (i + 1)) (lg i)
  meets : ∀ i j x y, i < j → j < ops.length → x ∈ lg i → y ∈ lg j → x.name = y.name → (x.writes = true ∨ y.writes = true) → Deps ops i j
  reg : regOk ops = true
  loc : ∀ f xs, Local (call f xs)

variable {N : Nat} {ops : Array Oper} {es : Nat → E} {hs : Nat → H} {cs : Nat → Nat} {lg : Nat → List Acc}

theorem RunD.fr (R : RunD cx call N ops.toList es hs cs lg) {i : Nat} (hi : i < ops.toList.length) : cs i ≤ cs (i + 1) ∧ Fr (hs i) (hs (i + 1)) (lg i) := by
  obtain ⟨_, v, _, h | h⟩ := R.step i ops.toList[i] (by simp [hi])
  · have := Local.opM R.loc _ _ _ _ _ _ h.2
    exact ⟨this.1, this.2.1⟩
  · rw [h.2.2.2.1, h.2.2.1]; exact ⟨Nat.le_refl _, fun _ _ => rfl⟩
theorem RunD.mono (R : RunD cx call N ops.toList es hs cs lg) {i : Nat} : ∀ {k : Nat}, i ≤ k → k ≤ ops.toList.length → cs i ≤ cs k
  | 0, hik, _ => by have : i = 0 := by omega
                    subst this; exact Nat.le_refl _
  | k + 1, hik, hk => by
    by_cases h : i = k + 1
    · subst h; exact Nat.le_refl _
    · exact Nat.le_trans (R.mono (k := k) (by omega) (by omega)) (R.fr (by omega)).1

def In (S : Array Bool) (i : Nat) : Prop := S.getD i false = true

/-- Where the operations of 'S' have been run, in whatever order. -/
structure Inv (ng : Nat) (w0 : World) (N : Nat) (ops : Array Oper) (es : Nat → E) (hs : Nat → H) (cs : Nat → Nat) (lg : Nat → List Acc) (φ0 : Nm) (a0 : Act)
    (S : Array Bool) (φ : Nm) (e : E) (h : H) (a : Act) (w : World) : Prop where
  rel : Rel ng w0 φ h w
  fr : ER φ e a.tmps
  size : a.tmps.size = N
  defers : a.defers = a0.defers
  heap : ∀ j n, j ≤ ops.toList.length → (∀ i, i < ops.toList.length → Wr (lg i) n → (In S i ↔ i < j)) → MapI.get h n = MapI.get (hs j) n
  tmp : ∀ j t, j ≤ ops.toList.length → (∀ i o, ops.toList[i]? = some o → o.dst = some t → (In S i ↔ i < j)) → MapI.get e t = MapI.get (es j) t
  ext : Ext φ0 φ (cs 0) (cs ops.toList.length)
  fresh : ∀ j, j < ops.toList.length → ¬ In S j → Fresh φ (cs j) (cs (j + 1))
  closed : ∀ j o, ops.toList[j]? = some o → In S j → ∀ x ∈ o.after.toList, Region.binds .any x = true → In S x.on
  lsize : S.size = ops.size

theorem In.set {S : Array Bool} {j i : Nat} (hj : j < S.size) : In (S.setIfInBounds j true) i ↔ (i = j ∨ In S i) := by
  unfold In
  by_cases h : j = i
  · subst h; simp [hj]
  · rw [getD_set_ne false h]
    constructor
    · exact .inr
    · rintro (e | e)
      · exact (h e.symm).elim
      · exact e

variable {φ0 : Nm} {a0 : Act}

/-- What is tied to the operation has been run if it stands ahead of it, and has not if it stands behind it. -/
theorem Inv.tied {S : Array Bool} {φ : Nm} {e : E} {h : H} {a : Act} {w : World} (I : Inv ng w0 N ops es hs cs lg φ0 a0 S φ e h a w) {j : Nat} {o : Oper} (ho : ops.toList[j]? = some o) (hj : ¬ In S j)
    (hed : ∀ x ∈ o.after.toList, Region.binds .any x = true → In S x.on) {i : Nat} {oi : Oper} (hoi : ops.toList[i]? = some oi)
    (ht : i ≠ j → (i < j → Deps ops.toList i j) ∧ (j < i → Deps ops.toList j i)) : In S i ↔ i < j := by
  have hin := deps_in (ops := ops.toList) (S := fun i => S.getD i false) (fun j o ho hs => I.closed j o ho hs)
  rcases Nat.lt_trichotomy i j with h | h | h
  · exact ⟨fun _ => h, fun _ => hin j o ho hed i ((ht (by omega)).1 h)⟩
  · subst h; exact ⟨fun x => (hj x).elim, fun x => by omega⟩
  · exact ⟨fun x => (hj (hin i oi hoi (fun y hy hb => I.closed i oi hoi x y hy hb) j ((ht (by omega)).2 h))).elim, fun x => by omega⟩

theorem Inv.step (R : RunD cx call N ops.toList es hs cs lg) {S : Array Bool} {φ : Nm} {e : E} {h : H} {a : Act} {w : World} (I : Inv ng w0 N ops es hs cs lg φ0 a0 S φ e h a w) {j : Nat} {o : Oper}
    (ho : ops.toList[j]? = some o) (hj : ¬ In S j) (hed : ∀ x ∈ o.after.toList, Region.binds .any x = true → In S x.on) {v : V} (hv : es (j + 1) = putF (es j) o.dst v) (hd : ∀ d, o.dst = some d → d < N)
    {h1 : H} (f1 : Fr h h1 (lg j)) (f2 : Agree (hs (j + 1)) h1 (lg j)) {φ' : Nm} {u : Value} {w' : World} (hx : Ext φ φ' (cs j) (cs (j + 1))) (hr : Rel ng w0 φ' h1 w') (hu : VR φ' v u) :
    Inv ng w0 N ops es hs cs lg φ0 a0 (S.setIfInBounds j true) φ' (putF e o.dst v) h1 (a.put o.dst u) w' := by
  have hjl : j < ops.toList.length := (List.getElem?_eq_some_iff.1 ho).1
  have hjs : j < S.size := by rw [I.lsize]; simpa using hjl
  have hin := deps_in (ops := ops.toList) (S := fun i => S.getD i false) (fun j o ho hs => I.closed j o ho hs)
  have back : ∀ k, j < k → k < ops.toList.length → In S k → Deps ops.toList j k → False := fun k hk hkl hks hdep =>
    hj (hin k ops.toList[k] (by simp [hkl]) (fun y hy hb => I.closed k _ (by simp [hkl]) hks y hy hb) j hdep)
  refine ⟨hr, ER.put (I.fr.mono hx.mono) I.size hd hu, by rw [put_size]; exact I.size, by rw [put_defers]; exact I.defers, fun j' n hj' hw => ?_, fun j' t hj' hw => ?_, ?_, fun i hi hni => ?_, fun i oi hoi hi x hx' hb => ?_, ?_⟩
  · by_cases hW : Wr (lg j) n
    · have hlt : j < j' := (hw j hjl hW).1 ((In.set hjs).2 (.inl rfl))
      have key : ∀ k, j + 1 ≤ k → k ≤ j' → MapI.get (hs k) n = MapI.get (hs (j + 1)) n := by
        intro k
        induction k with
        | zero => intro hk; omega
        | succ k ih =>
          intro hk hk'
          by_cases hkj : k = j
          · subst hkj; rfl
          · rw [← ih (by omega) (by omega)]
            refine (R.fr (by omega)).2 n fun x hx hn => ?_
            cases hxw : x.writes
            · rfl
            · exfalso
              have hk1 := (hw k (by omega) ⟨x, hx, hn, hxw⟩).2 (by omega)
              obtain ⟨y, hy, hyn, hyw⟩ := hW
              rcases (In.set hjs).1 hk1 with e | e
              · exact hkj e
              · exact back k (by omega) (by omega) e (R.meets j k y x (by omega) (by omega) hy hx (by rw [hyn, hn]) (.inl hyw))
      obtain ⟨y, hy, hyn, hyw⟩ := hW
      rw [key j' (by omega) (Nat.le_refl _), ← hyn]
      exact f2 y hy
    · rw [f1 n fun x hx hn => by
        cases hxw : x.writes
        · rfl
        · exact (hW ⟨x, hx, hn, hxw⟩).elim]
      refine I.heap j' n hj' fun i hi hwi => ?_
      rw [← hw i hi hwi, In.set hjs]
      exact ⟨.inr, fun x => x.resolve_left fun e => by subst e; exact hW hwi⟩
  · by_cases hW : o.dst = some t
    · have hlt : j < j' := (hw j o ho hW).1 ((In.set hjs).2 (.inl rfl))
      have key : ∀ k, j + 1 ≤ k → k ≤ j' → MapI.get (es k) t = some v := by
        intro k
        induction k with
        | zero => intro hk; omega
        | succ k ih =>
          intro hk hk'
          by_cases hkj : k = j
          · subst hkj; rw [hv, hW]; exact MapI.get_same _ _ _
          · have hkl : k < ops.toList.length := by omega
            have hk0 : ops.toList[k]? = some ops.toList[k] := by simp [hkl]
            obtain ⟨_, vk, hvk, _⟩ := R.step k _ hk0
            rw [← ih (by omega) (by omega), hvk]
            cases hdk : ops.toList[k].dst with
            | none => rfl
            | some d =>
              refine MapI.get_ne _ _ _ _ fun e => ?_
              subst e
              have hk1 := (hw k _ hk0 hdk).2 (by omega)
              rcases (In.set hjs).1 hk1 with e | e
              · exact hkj e
              · exact back k (by omega) (by omega) e (regOk_tmps R.reg (by omega) ho hk0 (.inl ⟨hW, .inr hdk⟩))
      rw [key j' (by omega) (Nat.le_refl _), hW]
      exact MapI.get_same _ _ _
    · have : MapI.get (putF e o.dst v) t = MapI.get e t := by
        cases hd : o.dst with
        | none => rfl
        | some d => exact MapI.get_ne _ _ _ _ fun e => hW (by rw [hd, e])
      rw [this]
      refine I.tmp j' t hj' fun i oi hi hwi => ?_
      rw [← hw i oi hi hwi, In.set hjs]
      exact ⟨.inr, fun x => x.resolve_left fun e => by subst e; rw [ho] at hi; cases hi; exact hW hwi⟩
  · exact I.ext.trans2 (hx.wide (R.mono (Nat.zero_le _) (by omega)) (R.mono (by omega) (Nat.le_refl _)))
  · have hij : i ≠ j := fun e => hni ((In.set hjs).2 (.inl e))
    have h0 := I.fresh i hi fun e => hni ((In.set hjs).2 (.inr e))
    intro n h1 h2
    have h3 := h0 n h1 h2
    cases h4 : φ' n with
    | none => rfl
    | some L =>
      exfalso
      have h5 := hx.only n (by rw [h3, h4]; exact fun e => by cases e)
      rcases Nat.lt_or_gt_of_ne hij with h | h
      · have := R.mono (i := i + 1) (k := j) (by omega) (by omega); omega
      · have := R.mono (i := j + 1) (k := i) (by omega) (by omega); omega
  · rw [In.set hjs] at hi ⊢
    rcases hi with e | hi
    · subst e; rw [ho] at hoi; cases hoi; exact .inr (hed x hx' hb)
    · exact .inr (I.closed i oi hoi hi x hx' hb)
  · rw [Array.size_setIfInBounds]; exact I.lsize

theorem Inv.wpOp (hcx : CxOk P cx) (hng : cx.ng = ng) (hcall : CallOk P ng w0 call) (R : RunD cx call N ops.toList es hs cs lg) {S : Array Bool} {φ : Nm} {e : E} {h : H} {a : Act} {w : World}
    (I : Inv ng w0 N ops es hs cs lg φ0 a0 S φ e h a w) {Q : Exit → Act → World → Prop} {K : Act → World → Prop} {j : Nat} (hjr : j ∈ Region.ready .any ops S)
    (hK : ∀ φ' e' h' a' w', Inv ng w0 N ops es hs cs lg φ0 a0 (S.setIfInBounds j true) φ' e' h' a' w' → K a' w') : wpOpIn (fe ro) 0 P ops Q j K a w := by
  obtain ⟨hjS, o, ho, hall⟩ := mem_ready.1 hjr
  have hol : ops.toList[j]? = some o := by simpa using ho
  have hjl : j < ops.toList.length := (List.getElem?_eq_some_iff.1 hol).1
  have hnj : ¬ In S j := fun e => by
    unfold In at e
    have : j < S.size := by rw [I.lsize]; simpa using hjl
    simp [this] at e hjS
    rw [e] at hjS; cases hjS
  have hed : ∀ x ∈ o.after.toList, Region.binds .any x = true → In S x.on := fun x hx hb => hall x (by simpa using hx) hb
  obtain ⟨hd, v, hv, hcase⟩ := R.step j o hol
  have hlooks : ∀ t ∈ looks ops.toList o, MapI.get e t = MapI.get (es j) t := fun t ht =>
    I.tmp j t (by omega) fun i oi hoi hdi => I.tied hol hnj hed hoi fun hij =>
      ⟨fun hlt => regOk_tmps R.reg hlt hoi hol (.inl ⟨hdi, .inl ht⟩), fun hlt => regOk_tmps R.reg hlt hol hoi (.inr ⟨hdi, ht⟩)⟩
  unfold wpOpIn
  simp only [ho]
  rcases hcase with ⟨hw, hrun⟩ | ⟨hw, rfl, hh, hc, hl⟩
  · rw [← wantedV_looks hlooks] at hw
    rw [wanted_ok I.fr hw]
    simp only [if_true]
    rw [← opM_looks hlooks] at hrun
    obtain ⟨_, f3, hloc⟩ := Local.opM R.loc _ _ _ _ _ _ hrun
    obtain ⟨h1, hrun', f2⟩ := hloc h fun x hx => I.heap j x.name (by omega) fun i hi ⟨y, hy, hyn, hyw⟩ =>
      I.tied hol hnj hed (i := i) (oi := ops.toList[i]) (by simp [hi]) fun hij =>
        ⟨fun hlt => R.meets i j y x hlt hjl hy hx hyn (.inl hyw), fun hlt => R.meets j i x y hlt hi hx hy hyn.symm (.inr hyw)⟩
    obtain ⟨_, f1, _⟩ := Local.opM R.loc _ _ _ _ _ _ hrun'
    exact opM_ok hcx hng hcall I.fr I.rel hrun' (I.fresh j hjl hnj) fun φ' u w' k1 k2 k3 k4 => hK φ' _ _ _ _ (I.step R hol hnj hed hv hd f1 f2 k1 k3 k4)
  · rw [← wantedV_looks hlooks] at hw
    rw [wanted_ok I.fr hw]
    simp only [Bool.false_eq_true, if_false]
    refine ⟨fun _ _ => trivial, hK φ _ h _ w (I.step R hol hnj hed hv hd (fun _ _ => rfl) (fun x hx => by rw [hl] at hx; cases hx) (Ext.refl _ _ _) I.rel (.tuple .nil))⟩

theorem Inv.full {S : Array Bool} {φ : Nm} {e : E} {h : H} {a : Act} {w : World} (R : RunD cx call N ops.toList es hs cs lg) (I : Inv ng w0 N ops es hs cs lg φ0 a0 S φ e h a w)
    (hr : Region.ready .any ops S = []) : ∀ j, j < ops.toList.length → In S j := by
  intro j
  induction j using Nat.strongRecOn with
  | _ j ih =>
    intro hj
    have ho : ops.toList[j]? = some ops.toList[j] := by simp [hj]
    cases hS : S.getD j false with
    | true => exact hS
    | false =>
      exfalso
      have : j ∈ Region.ready .any ops S := by
        rw [mem_ready]
        refine ⟨?_, ops.toList[j], by simpa using ho, fun x hx hb => ?_⟩
        · have : j < S.size := by rw [I.lsize]; simpa using hj
          simp [this] at hS ⊢; exact hS
        · have := regOk_edges R.reg ho (x := x) (by simpa using hx) hb
          exact ih x.on this (by omega)
      rw [hr] at this; cases this

theorem region_any (hcx : CxOk P cx) (hng : cx.ng = ng) (hcall : CallOk P ng w0 call) (R : RunD cx call N ops.toList es hs cs lg) {Q : Exit → Act → World → Prop}
    (hQ : ∀ φ' a' w', Ext φ0 φ' (cs 0) (cs ops.toList.length) → Rel ng w0 φ' (hs ops.toList.length) w' → ER φ' (es ops.toList.length) a'.tmps → a'.tmps.size = N → a'.defers = a0.defers → Q .normal a' w') :
    ∀ (fuel : Nat) (S : Array Bool) (φ : Nm) (e : E) (h : H) (a : Act) (w : World), S.toList.count false ≤ fuel → Inv ng w0 N ops es hs cs lg φ0 a0 S φ e h a w → wpAnyIn (fe ro) 0 P .any ops Q fuel S a w := by
  have done : ∀ (S : Array Bool) (φ : Nm) (e : E) (h : H) (a : Act) (w : World), Inv ng w0 N ops es hs cs lg φ0 a0 S φ e h a w → (∀ j, j < ops.toList.length → In S j) → Q .normal a w := by
    intro S φ e h a w I hall
    refine hQ φ a w I.ext (I.rel.same fun n => ?_) (fun t v hv => I.fr t v ?_) I.size I.defers
    · exact (I.heap _ n (Nat.le_refl _) fun i hi _ => ⟨fun _ => hi, fun _ => hall i hi⟩).symm
    · rw [I.tmp _ t (Nat.le_refl _) fun i o ho _ => ⟨fun _ => (List.getElem?_eq_some_iff.1 ho).1, fun _ => hall i (List.getElem?_eq_some_iff.1 ho).1⟩]; exact hv
  intro fuel
  induction fuel with
  | zero =>
    intro S φ e h a w hc I
    have hnil : Region.ready .any ops S = [] := by
      apply List.eq_nil_iff_forall_not_mem.2
      intro j hj
      obtain ⟨h0, o, ho, _⟩ := mem_ready.1 hj
      have hlt : j < S.size := by rw [I.lsize]; exact (Array.getElem?_eq_some_iff.1 ho).1
      simp [hlt] at h0
      have : false ∈ S.toList := by rw [← h0]; simp
      have := List.count_pos_iff.2 this
      omega
    exact ⟨hnil, done S φ e h a w I (I.full R hnil)⟩
  | succ fuel ih =>
    intro S φ e h a w hc I
    refine ⟨fun hnil => done S φ e h a w I (I.full R hnil), fun j hj => I.wpOp hcx hng hcall R hj fun φ' e' h' a' w' I' => ih _ φ' e' h' a' w' ?_ I'⟩
    obtain ⟨h0, o, ho, _⟩ := mem_ready.1 hj
    have hlt : j < S.size := by rw [I.lsize]; exact (Array.getElem?_eq_some_iff.1 ho).1
    simp [hlt] at h0
    rw [Array.toList_setIfInBounds, List.count_set (by simpa using hlt)]
    have h1 : S.toList[j]'(by simpa using hlt) = false := by simpa using h0
    have : 0 < S.toList.count false := List.count_pos_iff.2 (by rw [← h1]; exact List.getElem_mem _)
    rw [h1]
    show S.toList.count false - 1 + 0 ≤ fuel
    omega

theorem evDrawn_ok (hcx : CxOk P cx) (hng : cx.ng = ng) (hcall : CallOk P ng w0 call) (hloc : ∀ f xs, Local (call f xs)) (hmix : P.follows .mixedOrders = true) (hreg : regOk ops.toList = true)
    {φ : Nm} {e e' : E} {h h' : H} {c c' : Nat} {l : List Acc} {a : Act} {w : World} (he : ER φ e a.tmps) (hsz : a.tmps.size = N) (r : Rel ng w0 φ h w)
    (hrun : evDrawn cx call N ops.toList e h c = .ok e' h' c' l) (hf : Fresh φ c c') {Q : Exit → Act → World → Prop} {id : Nat}
    (hQ : ∀ φ' a' w', Ext φ φ' c c' → Rel ng w0 φ' h' w' → ER φ' e' a'.tmps → a'.tmps.size = N → a'.defers = a.defers → Q .normal a' w') : (Code.region id ops true).wpIn (fe ro) 0 P Q a w := by
  unfold evDrawn at hrun
  obtain ⟨⟨e1, logs⟩, h1, c1, l1, l2, x1, x2, _⟩ := bnd_ok hrun
  simp only at x2
  split at x2
  · next hlogs =>
    obtain ⟨rfl, rfl, rfl, _⟩ := ret_ok x2
    obtain ⟨es, hs, cs, lg, y1, y2, y3, y4, y5, y6, y7, y8⟩ := evLog_run x1
    have R : RunD cx call N ops.toList es hs cs lg := ⟨y8, fun i j x y hij hj hx hy hn hw => logsOk_ok hlogs hij hj (y7 i (by omega)) (y7 j hj) hx hy hn hw, hreg, hloc⟩
    refine wpIn_region_any hmix (region_any (φ0 := φ) (a0 := a) hcx hng hcall R (fun φ' a' w' k1 k2 k3 k4 k5 => ?_) ops.size _ φ e h a _ ?_ ?_)
    · rw [y4, ] at k3
      rw [y5] at k2
      rw [y3, y6] at k1
      exact hQ φ' a' w' k1 k2 k3 k4 k5
    · have := List.count_le_length (a := false) (l := (Array.replicate ops.size false).toList)
      simpa using this
    · have no : ∀ i, ¬ In (Array.replicate ops.size false) i := fun i hi => by
        unfold In at hi
        by_cases h : i < ops.size
        · simp [h] at hi
        · simp [h] at hi
      refine ⟨r.drew _, he, hsz, rfl, fun j n hj hw => ?_, fun j t hj hw => ?_, Ext.refl _ _ _, fun j hj _ => ?_, fun j o ho hi => (no j hi).elim, by simp⟩
      · have key : ∀ k, k ≤ j → MapI.get (hs k) n = MapI.get h n := by
          intro k
          induction k with
          | zero => intro _; rw [y2]
          | succ k ih =>
            intro hk
            rw [← ih (by omega)]
            refine (R.fr (by omega)).2 n fun x hx hn => ?_
            cases hxw : x.writes
            · rfl
            · exact (no k ((hw k (by omega) ⟨x, hx, hn, hxw⟩).2 (by omega))).elim
        exact (key j (Nat.le_refl _)).symm
      · have key : ∀ k, k ≤ j → MapI.get (es k) t = MapI.get e t := by
          intro k
          induction k with
          | zero => intro _; rw [y1]
          | succ k ih =>
            intro hk
            have hkl : k < ops.toList.length := by omega
            have hk0 : ops.toList[k]? = some ops.toList[k] := by simp [hkl]
            obtain ⟨_, vk, hvk, _⟩ := R.step k _ hk0
            rw [← ih (by omega), hvk]
            cases hdk : ops.toList[k].dst with
            | none => rfl
            | some d =>
              refine MapI.get_ne _ _ _ _ fun e => ?_
              subst e
              exact (no k ((hw k _ hk0 hdk).2 (by omega))).elim
        exact (key j (Nat.le_refl _)).symm
      · intro n h2 h3
        refine hf n ?_ ?_
        · have := R.mono (i := 0) (k := j) (by omega) (by omega); rw [y3] at this; omega
        · have := R.mono (i := j + 1) (k := ops.toList.length) (by omega) (Nat.le_refl _); rw [y6] at this; omega
  · exact (fail_ok x2).elim
end
end Go.Ab
